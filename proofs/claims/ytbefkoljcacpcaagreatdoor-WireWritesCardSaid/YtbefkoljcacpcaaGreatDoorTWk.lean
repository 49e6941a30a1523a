/- What LawWireReads, LawWireWrites, LawWireSpoilt lean on, part k of 15: the texts WiB, WiF, WiG, WiH, TmO. -/
import Derived.Test.YtbefkoljcacpcaaGreatDoorTWg
import Derived.Test.YtbefkoljcacpcaaGreatDoorTWh
import Derived.Test.YtbefkoljcacpcaaGreatDoorTWj
set_option linter.unusedVariables false
set_option linter.unusedSimpArgs false
namespace Go.Proofs.YtbefkoljcacpcaaGreatDoor.Tm
open Go Go.RowKit Go.Proofs.YtbefkoljcacpcaaGreatDoorW.PrintWords Go.Proofs.YtbefkoljcacpcaaGreatDoor.B
theorem Bag.lower {base base' : Nat} {w : World} {v : Value} {L : List F} (h : Bag base w v L) (hb : base' ≤ base) : Bag base' w v L := by
  obtain ⟨cs, h1, h2⟩ := h
  exact ⟨cs, own_weaken h1 hb, FC.move (fun b ⟨e1, e2, e3⟩ => ⟨⟨Nat.le_trans hb e1, e2, e3⟩, rfl⟩) h2⟩
set_option maxRecDepth 100000 in
theorem rnum_c (n : Int) (h0 : -9223372036854775808 ≤ n) (h1 : n ≤ 9223372036854775807) (w : World) : Calls Tryz.prog 52 #[.int .i64 n] w fun ev w' => ev = .returned (vtext ⟨(Lib.itoa n).toArray⟩) ∧ Below w.heap.size w w' := by
  obtain ⟨w0, hw0⟩ : ∃ w0, w0 = w.alloc (.cells #[.bool false, .string ⟨#[]⟩, .slice none 0 0] 52) := ⟨_, rfl⟩
  have hb0 : Below w.heap.size w w0 := by rw [hw0]; exact (Below.refl _ _).alloc (Nat.le_refl _) _
  have hg : w0.heap[w.heap.size]? = some (.cells #[.bool false, .string ⟨#[]⟩, .slice none 0 0] 52 (0, 0)) := by rw [hw0]; exact heap_alloc_at _ _
  have CI := Lib.hid (digits_c n h0 h1 w0)
  have hgH := Lib.hid hg
  have hb0H := Lib.hid hb0
  clear hg hb0
  go_enter Tryz.func52, Tryz.ntmps52
  go_wp2_with fail
  rw [← hw0]
  replace hw0 := Lib.hid hw0
  refine (CI.out).mono ?_
  rintro ev w1 ⟨rfl, hb1⟩
  have hb1H := Lib.hid hb1
  clear hb1
  obtain ⟨t, ht⟩ : ∃ t : ByteArray, t = ⟨(Lib.itoa n).toArray⟩ := ⟨_, rfl⟩
  rw [← ht]
  replace ht := Lib.hid ht
  go_wp2_with fail
  refine (rtext_c _ w1).mono ?_
  rintro ev w2 ⟨rfl, hb2⟩
  have hg2 : w2.heap[w.heap.size]? = some (.cells #[.bool false, .string ⟨#[]⟩, .slice none 0 0] 52 (0, 0)) := by
    have hs := heap_lt hgH.out
    rw [hb2.block _ (Nat.lt_of_lt_of_le hs hb1H.out.size), hb1H.out.block _ hs]
    exact hgH.out
  have hbb := Lib.hid (hb0H.out.trans ((hb1H.out.mono (Nat.le_of_lt (heap_lt hgH.out))).trans (hb2.mono (Nat.le_trans (Nat.le_of_lt (heap_lt hgH.out)) hb1H.out.size))))
  unfold vtext
  obtain ⟨k0, k1, k2, hsh, hfz⟩ := blk3 hg2
  clear hb2
  go_wp2_with fail
  (try simp only [Exit.inBlock, Exit.then])
  refine bodyPost_ret (results_cell_row rfl _ _ w.heap.size 52 #[.bool false, .string t, .slice none 0 0] (0, 0) _ rfl (set3 hg2) Tryz.underlying52 rfl (by kernel_rfl)) rfl ⟨by rw [← ht.out]; rfl, ?_⟩
  exact ((hbb.out.setCell (Nat.le_refl _) _).setCell (Nat.le_refl _) _).setCell (Nat.le_refl _) _
end Go.Proofs.YtbefkoljcacpcaaGreatDoor.Tm
namespace Go.Proofs.YtbefkoljcacpcaaGreatDoor.Wi
open Go Go.RowKit Go.Proofs.YtbefkoljcacpcaaGreatDoorW.PrintWords Go.Proofs.YtbefkoljcacpcaaGreatDoor.B Go.Proofs.YtbefkoljcacpcaaGreatDoor.Tm
def BodyPost (vs : List Int) (l : List ByteArray) (p : ByteArray) (w : World) (ev : Ending) (w' : World) : Prop :=
  ∃ A c, ev = .returned (.slice A 8 c) ∧ Bag w.heap.size w' (.slice A 8 c) (lbody vs l p) ∧ Below w.heap.size w w'
set_option maxRecDepth 100000 in
set_option maxHeartbeats 16000000 in
theorem rbody_c (v0 v1 v2 v3 v4 v5 : Int) (A : Option Addr) (c : Nat) (l : List ByteArray) (p : ByteArray) (w : World) (hC : Kd.C Kd.string w A l.length l) (hc : l.length ≤ c) (hl128 : l.length ≤ 128) (hv : ∀ k, k < 6 → 0 ≤ ([v0, v1, v2, v3, v4, v5] : List Int).getD k 0 ∧ ([v0, v1, v2, v3, v4, v5] : List Int).getD k 0 ≤ 2147483647) :
    Calls Tryz.prog 26 #[.agg (letCells v0 v1 v2 v3 v4 v5 A l.length c p)] w (BodyPost [v0, v1, v2, v3, v4, v5] l p w) := by
  obtain ⟨g, hgs⟩ : ∃ g, g = w.heap.size := ⟨_, rfl⟩
  obtain ⟨w1, hw1⟩ : ∃ w1, w1 = w.alloc (.cells (letCells v0 v1 v2 v3 v4 v5 A l.length c p) 24) := ⟨_, rfl⟩
  have hb1 := Lib.hid (show Below w.heap.size w w1 by rw [hw1]; exact (Below.refl _ _).alloc (Nat.le_refl _) _)
  have hg1 := Lib.hid (show LetAt w1 g v0 v1 v2 v3 v4 v5 A l.length c p by unfold LetAt; rw [hw1, hgs]; exact heap_alloc_at _ _)
  have hgl1 := Lib.hid (show g < w1.heap.size from heap_lt hg1.out)
  unfold letCells at hw1 ⊢
  obtain ⟨n, hN⟩ : ∃ n, n = l.length := ⟨_, rfl⟩
  rw [← hN] at hc hw1 hg1 hl128 ⊢
  have hNH := Lib.hid hN
  have hCH := Lib.hid hC
  have hvH := Lib.hid hv
  clear hN hC hv
  go_enter Tryz.func26, Tryz.ntmps26
  go_upto_region 1 with fail
  rw [← hw1, ← hgs]
  replace hw1 := Lib.hid hw1
  replace hgs := Lib.hid hgs
  go_wp2_with fail
  refine (rlist_c none 0 0 w1).mono ?_
  rintro ev w2 ⟨rfl, hb2⟩
  unfold vlist
  obtain ⟨bh, hbh⟩ : ∃ bh, bh = w2.heap.size := ⟨_, rfl⟩
  obtain ⟨w3, hw3⟩ : ∃ w3, w3 = w2.alloc (.cells #[.bool true, .string ⟨#[]⟩, .slice none 0 0] 52) := ⟨_, rfl⟩
  have hs3 := Lib.hid (show w3.heap.size = bh + 1 by rw [hw3, hbh]; simp)
  have hb3 := Lib.hid (show Below w1.heap.size w1 w3 by rw [hw3]; exact hb2.alloc hb2.size _)
  have hh3 := Lib.hid (show w3.heap[bh]? = some (.cells #[.bool true, .string ⟨#[]⟩, .slice none 0 0] 52 (0, 0)) by rw [hw3, hbh]; exact heap_alloc_at _ _)
  have hg3 := Lib.hid (let_of hg1.out (hb3.out.block _ hgl1.out))
  have hB3 := Lib.hid (hb1.out.trans (hb3.out.mono hb1.out.size))
  have hgbh := Lib.hid (show g < bh by rw [hbh]; exact Nat.lt_of_lt_of_le hgl1.out hb2.size)
  clear hb2
  go_upto_region 2 with fail
  rw [← hw3, ← hbh]
  replace hw3 := Lib.hid hw3
  replace hbh := Lib.hid hbh
  go_wp2_with fail
  have hncH := Lib.hid hc
  have hmL := Lib.hid hl128
  go_loopg [4] n (fun g' i W => ∃ (k : Nat) (v : Value), g' = n - k ∧ k ≤ n ∧ i = .int .i64 k ∧ W.heap[bh]? = some (.cells #[.bool true, .string ⟨#[]⟩, v] 52 (0, 0)) ∧ Bag w3.heap.size W v (lhave (l.take k)) ∧ Tch (fun b => b = bh) w3 W)
  case atStart => exact ⟨0, .slice none 0 0, rfl, by omega, rfl, hh3.out, Bag.nil _ _, Tch.refl _ _⟩
  case round =>
    obtain ⟨k, v, hg', hk, rfl, hhb, hbag, hT⟩ := hrel
    subst hg'
    have hhbH := Lib.hid hhb
    have hbag2 := Lib.hid hbag
    have hT2 := Lib.hid hT
    have hlr := Lib.hid (let_of hg3.out (hT.block _ (heap_lt hg3.out) (show ¬ g = bh by have := hgbh.out; omega)))
    have hbr := Lib.hid (show Below w.heap.size w wr from hB3.out.trans (hT.below (B := w.heap.size) hB3.out.size (fun k hk _ => by subst hk; have := hgbh.out; have := hgs.out; omega)))
    obtain ⟨q0, q1, q2, q3, q4, q5, q6, q7⟩ := let_cells hlr.out
    by_cases hkn : k < n
    · have hki : (k : Int) < (n : Int) := by omega
      have hkl : k < l.length := by rw [← hNH.out]; exact hkn
      obtain ⟨b, o, rfl, hcell0⟩ := str_cell hCH.out k hkl
      have hcell := keepc hbr.out hcell0
      have hbw := Lib.hid (show b < w.heap.size from World.block_lt_of_cell? w _ hcell0)
      clear hcell0
      have hnext := Lib.hid (lhave_take l k hkl)
      obtain ⟨x, hx⟩ : ∃ x, x = l.getD k ByteArray.empty := ⟨_, rfl⟩
      rw [← hx] at hcell hnext
      replace hx := Lib.hid hx
      have hq2 : wr.cell? ⟨bh, 2, none⟩ = some v := by rw [cell_of hhb]; rfl
      obtain ⟨S, hS⟩ : ∃ S : World → Prop, S = fun W => W.cell? ⟨bh, 2, none⟩ = some v ∧ W.cell? ⟨g, 6, none⟩ = some (.slice (some ⟨b, o, none⟩) n c) ∧ W.cell? ⟨b, o + k, none⟩ = some (.string x) := ⟨_, rfl⟩
      have hSi : ∀ W, S W ↔ (W.cell? ⟨bh, 2, none⟩ = some v ∧ W.cell? ⟨g, 6, none⟩ = some (.slice (some ⟨b, o, none⟩) n c) ∧ W.cell? ⟨b, o + k, none⟩ = some (.string x)) := fun W => by rw [hS]
      have hS0 : S wr.drew := (hSi _).2 ⟨hq2, q6, hcell⟩
      have s1 : ∀ X : InS S, X.val.cell? ⟨bh, 2, none⟩ = some v := fun X => ((hSi X.val).1 X.mem).1
      have s2 : ∀ X : InS S, X.val.cell? ⟨g, 6, none⟩ = some (.slice (some ⟨b, o, none⟩) n c) := fun X => ((hSi X.val).1 X.mem).2.1
      have s3 : ∀ X : InS S, X.val.cell? ⟨b, o + k, none⟩ = some (.string x) := fun X => ((hSi X.val).1 X.mem).2.2
      have hne : Nonempty (InS S) := ⟨⟨wr.drew, hS0⟩⟩
      have hS0H := Lib.hid hS0
      have hSiH := Lib.hid hSi
      clear hS hSi hq2 hhb hbag hT hS0
      go_upto_region 5 with fail
      refine wp_region_mix S [0, 1, 2, 3, 4, 5, 6] [.mem [0, 1, 2, 3, 4, 5, 6], .keep 7, .keep 8, .keep 9, .pure [10], .last 11] (by kernel_rfl) (by kernel_rfl) hS0H.out ?_
      simp only [pick, List.getD_cons_zero, List.getD_cons_succ, wpMix]
      repeat (go_big_quiet_step (fail))
      refine wpQuiet_nil ?_
      have hbhs := heap_lt hhbH.out
      have hnb := Lib.hid (show ∀ b, b < w3.heap.size → some b ≠ v.ownBlock from fun b hb e => by have := (hbag2.out.lt _ e.symm).1; omega)
      have hbh3 := heap_lt hh3.out
      have hgl3 := heap_lt hg3.out
      obtain ⟨d1, d2, d3⟩ := (hSiH.out _).1 hS0H.out
      go_wp2_with (go_at_call 29; (with_reducible refine (rtext_c _ _).mono ?_); rintro ev w9 ⟨rfl, hb9⟩)
      have r1 := keepc hb9 d1
      have r2 := keepc hb9 d2
      have r3 := keepc hb9 d3
      have hbr9 := Lib.hid (show Below wr.heap.size wr w9 from ((Below.refl wr.heap.size wr).drew).trans hb9)
      have hbag9 := Lib.hid (hbag2.out.keep (w' := w9) (fun b h1 h2 => hbr9.out.block b h2) hbr9.out.size)
      clear hb9
      unfold vtext
      refine ⟨(hSiH.out _).2 ⟨r1, r2, r3⟩, ?_⟩
      go_wp2_with fail
      refine ⟨(hSiH.out _).2 ⟨cell_alloc r1 _, cell_alloc r2 _, cell_alloc r3 _⟩, ?_⟩
      have hlen := Lib.hid (show (lhave (l.take k)).length = k from by unfold lhave; rw [List.length_map, List.length_take]; omega)
      have hmL' := hmL.out
      go_wp2_with (at_builtin; refine bag_app (by rfl) _ _ _ (by rfl) Tryz.underlying50 (by rfl) k 1 1 (by rfl) (by rfl) hbag9.out (FC.texts _) hlen.out (by rfl) (by omega) (by omega) (Nat.le_trans hT2.out.size hbr9.out.size) ?_; intro g7 cap7 w10 hbag10 hgrew10)
      have hbw' := hbw.out
      have hB3s := hB3.out.size
      have u1 := hgrew10.cell r1 (hnb.out bh hbh3)
      have u2 := hgrew10.cell r2 (hnb.out g hgl3)
      have u3 := hgrew10.cell r3 (hnb.out b (by omega))
      have hf10 := hgrew10.heap ((hbr9.out.block _ (heap_lt hhbH.out)).trans hhbH.out) (hnb.out bh hbh3)
      refine ⟨(hSiH.out _).2 ⟨u1, u2, u3⟩, ?_⟩
      repeat (go_big_quiet_step (fail))
      refine wpQuiet_nil ?_
      have z10 : w10.frozen? ⟨bh, 2, none⟩ = false := fr_of hf10 2
      have hf10H := Lib.hid hf10
      have hbag10H := Lib.hid hbag10
      have hgrew10H := Lib.hid hgrew10
      clear hf10 hbag10 hgrew10 hbh3 hbhs hgl3 hbw' hB3s
      go_wp2_with fail
      simp only [stepPost]
      go_wp2_with fail
      go_roundg (n - (k + 1))
      case measure => omega
      case rel =>
        refine ⟨k + 1, .slice (some ⟨g7, 0, none⟩) (k + 1) cap7, rfl, by omega, by go_num, heap_set _ _ _ _ _ _ _ hf10H.out, ?_, ?_⟩
        · rw [hnext.out]
          exact hbag10H.out.keep (fun b h1 h2 => heap_set_ne _ _ _ _ (by show b ≠ bh; have := hs3.out; omega)) (by rw [size_set]; exact Nat.le_refl _)
        · exact (hgrew10H.out.tch (hT2.out.trans (Tch.of_new hbr9.out)) (fun b hb => (hbag2.out.lt b hb).1)).setCell ⟨bh, 2, none⟩ (fun _ => rfl) _
    · have hkn' : k = n := by omega
      subst hkn'
      have hki : ¬ (k : Int) < (k : Int) := by omega
      have ht : l.take k = l := List.take_of_length_le (by rw [← hNH.out]; exact Nat.le_refl _)
      rw [ht] at hbag2
      obtain ⟨vs, hvs⟩ : ∃ vs, vs = [v0, v1, v2, v3, v4, v5] := ⟨_, rfl⟩
      have hvs6 := Lib.hid (show vs.length = 6 by rw [hvs]; rfl)
      rw [← hvs] at hvH ⊢
      replace hvs := Lib.hid hvs
      obtain ⟨gn, hgn⟩ : ∃ gn, gn = wr.heap.size := ⟨_, rfl⟩
      obtain ⟨w4, hw4⟩ : ∃ w4, w4 = wr.alloc (.cells #[.int .i64 v0, .int .i64 v1, .int .i64 v2, .int .i64 v3, .int .i64 v4, .int .i64 v5] 3) := ⟨_, rfl⟩
      have hn4 := Lib.hid (show w4.heap[gn]? = some (.cells #[.int .i64 v0, .int .i64 v1, .int .i64 v2, .int .i64 v3, .int .i64 v4, .int .i64 v5] 3 (0, 0)) by rw [hw4, hgn]; exact heap_alloc_at _ _)
      have hb4 := Lib.hid (show Below wr.heap.size wr w4 by rw [hw4]; exact (Below.refl _ _).alloc (Nat.le_refl _) _)
      have hh4 := Lib.hid ((hb4.out.block _ (heap_lt hhbH.out)).trans hhbH.out)
      have hl4 := Lib.hid (let_of hlr.out (hb4.out.block _ (heap_lt hlr.out)))
      have hbag4 := Lib.hid (hbag2.out.keep (w' := w4) (fun b h1 h2 => hb4.out.block b h2) hb4.out.size)
      have hB4 := Lib.hid (hbr.out.trans (hb4.out.mono hbr.out.size))
      clear hhb hbag hT
      go_upto_region 7 with fail
      rw [← hw4, ← hgn]
      replace hw4 := Lib.hid hw4
      replace hgn := Lib.hid hgn
      clear q0 q1 q2 q3 q4 q5 q6 q7
      go_wp2_with fail
      go_loopg [7, 6] 6 (fun g' i o W => ∃ (k : Nat) (v : Value), g' = 6 - k ∧ k ≤ 6 ∧ i = .int .i64 k ∧ v = o ∧ Bag w4.heap.size W v (lnums (vs.take k)) ∧ Tch (fun _ => False) w4 W)
      case atStart => exact ⟨0, _, rfl, by omega, rfl, rfl, Bag.nil _ _, Tch.refl _ _⟩
      case round =>
        obtain ⟨k2, v', hg', hk, rfl, rfl, hbag, hT⟩ := hrel
        subst hg'
        have hbagA := Lib.hid hbag
        have hTA := Lib.hid hT
        have hnr := Lib.hid (hT.heap hn4.out (fun e => e))
        by_cases hk6 : k2 < 6
        · have hki2 : (k2 : Int) < 6 := by omega
          have hx1 : wr.cell? ⟨gn, k2, none⟩ = some (.int .i64 (vs.getD k2 0)) := by
            rw [cell_of hnr.out, hvs.out]
            exact six (P := fun k => (#[.int .i64 v0, .int .i64 v1, .int .i64 v2, .int .i64 v3, .int .i64 v4, .int .i64 v5] : Array Value)[k]? = some (.int .i64 (([v0, v1, v2, v3, v4, v5] : List Int).getD k 0))) hk6 rfl rfl rfl rfl rfl rfl
          have hnext := Lib.hid (lnums_take vs k2 (by rw [hvs6.out]; exact hk6))
          have hxb := hvH.out k2 hk6
          generalize vs.getD k2 0 = x at *
          have hlen := Lib.hid (show (lnums (vs.take k2)).length = k2 from by unfold lnums; rw [List.length_map, List.length_take, hvs6.out]; omega)
          clear hbag hT
          go_wp2_with fail
          refine (rnum_c x (by omega) (by omega) wr).mono ?_
          rintro ev w6 ⟨rfl, hb6⟩
          have hbag6 := Lib.hid (hbagA.out.keep (w' := w6) (fun b h1 h2 => hb6.block b h2) hb6.size)
          have hb6H := Lib.hid hb6
          have hs6 := Lib.hid (show w4.heap.size ≤ w6.heap.size from Nat.le_trans hTA.out.size hb6.size)
          unfold vtext
          obtain ⟨t, ht⟩ : ∃ t : ByteArray, t = ⟨(Lib.itoa x).toArray⟩ := ⟨_, rfl⟩
          rw [← ht]
          have htx := Lib.hid (show txt (Lib.itoa x) = txt t.data.toList by rw [ht])
          clear ht hb6
          go_wp2_with (at_builtin; refine bag_app (by rfl) _ _ _ (by rfl) Tryz.underlying50 (by rfl) k2 1 1 (by rfl) (by rfl) hbag6.out (FC.texts _) hlen.out (by rfl) (by omega) (by omega) hs6.out ?_; intro g7 cap7 w10 hbag10 hgrew10)
          have hbag10H := Lib.hid hbag10
          have hgrew10H := Lib.hid hgrew10
          clear hbag10 hgrew10
          go_wp2_with fail
          go_roundg (6 - (k2 + 1))
          case measure => omega
          case rel =>
            refine ⟨k2 + 1, _, rfl, by omega, by go_num, rfl, ?_, hgrew10H.out.tch (hTA.out.trans (Tch.of_new hb6H.out)) (fun b hb => (hbagA.out.lt b hb).1)⟩
            rw [hnext.out, htx.out]
            exact hbag10H.out
        · have hk6e : k2 = 6 := by omega
          subst hk6e
          have hki2 : ¬ ((6 : Nat) : Int) < 6 := by omega
          have htake : vs.take 6 = vs := List.take_of_length_le (by rw [hvs6.out]; exact Nat.le_refl _)
          rw [htake] at hbagA
          have hBr := Lib.hid (show Below w.heap.size w wr from hB4.out.trans (hT.below (B := w.heap.size) hB4.out.size (fun k hk _ => hk.elim)))
          have hhr := hT.heap hh4.out (fun e => e)
          have hlr2 := Lib.hid (let_of hl4.out (hT.block _ (heap_lt hl4.out) (fun e => e)))
          obtain ⟨Ah, ch, rfl, hcl, hcm, hks⟩ := hbag4.out.form
          have hll : (lhave l).length = k := by unfold lhave; rw [List.length_map]; exact hNH.out.symm
          rw [hll] at hcl hhr
          have hclH := Lib.hid hcl
          obtain ⟨z0, z1, z2, _, _⟩ := blk3 hhr
          have z3 : wr.cell? ⟨g, 7, none⟩ = some (.string p) := (let_cells hlr2.out).2.2.2.2.2.2.2
          obtain ⟨S, hS⟩ : ∃ S : World → Prop, S = fun W => W.cell? ⟨bh, 0, none⟩ = some (.bool true) ∧ W.cell? ⟨bh, 1, none⟩ = some (.string ⟨#[]⟩) ∧ W.cell? ⟨bh, 2, none⟩ = some (.slice Ah k ch) ∧ W.cell? ⟨g, 7, none⟩ = some (.string p) := ⟨_, rfl⟩
          have hSi : ∀ W, S W ↔ (W.cell? ⟨bh, 0, none⟩ = some (.bool true) ∧ W.cell? ⟨bh, 1, none⟩ = some (.string ⟨#[]⟩) ∧ W.cell? ⟨bh, 2, none⟩ = some (.slice Ah k ch) ∧ W.cell? ⟨g, 7, none⟩ = some (.string p)) := fun W => by rw [hS]
          have hS0 : S wr.drew := (hSi _).2 ⟨z0, z1, z2, z3⟩
          have s1 : ∀ X : InS S, X.val.cell? ⟨bh, 0, none⟩ = some (.bool true) := fun X => ((hSi X.val).1 X.mem).1
          have s2 : ∀ X : InS S, X.val.cell? ⟨bh, 1, none⟩ = some (.string ⟨#[]⟩) := fun X => ((hSi X.val).1 X.mem).2.1
          have s3 : ∀ X : InS S, X.val.cell? ⟨bh, 2, none⟩ = some (.slice Ah k ch) := fun X => ((hSi X.val).1 X.mem).2.2.1
          have s4 : ∀ X : InS S, X.val.cell? ⟨g, 7, none⟩ = some (.string p) := fun X => ((hSi X.val).1 X.mem).2.2.2
          have hne : Nonempty (InS S) := ⟨⟨wr.drew, hS0⟩⟩
          have hS0H := Lib.hid hS0
          have hSiH := Lib.hid hSi
          have hksH := Lib.hid hks
          have hsz := Lib.hid hT.size
          clear hS hSi hS0 z0 z1 z2 z3 hbag hT hhr hks hcl hcm hll htake
          go_upto_region 12 with fail
          refine wp_region_mix S [0, 1, 2, 3] [.mem [0, 1, 2, 3], .keep 4, .keep 5, .keep 6, .pure [7]] (by kernel_rfl) (by kernel_rfl) hS0H.out ?_
          simp only [pick, List.getD_cons_zero, List.getD_cons_succ, wpMix]
          repeat (go_big_quiet_step (fail))
          refine wpQuiet_nil ?_
          obtain ⟨d1, d2, d3, d4⟩ := (hSiH.out _).1 hS0H.out
          go_wp2_with (go_at_call 29; (with_reducible refine (rtext_c _ _).mono ?_); rintro ev w9 ⟨rfl, hb9⟩)
          have r1 := keepc hb9 d1
          have r2 := keepc hb9 d2
          have r3 := keepc hb9 d3
          have r4 := keepc hb9 d4
          have hbr9 := Lib.hid (show Below wr.heap.size wr w9 from ((Below.refl wr.heap.size wr).drew).trans hb9)
          have hBw9 := Lib.hid (hBr.out.trans (hbr9.out.mono hBr.out.size))
          have hbag9 := Lib.hid ((hbagA.out.keep (w' := w9) (fun b h1 h2 => hbr9.out.block b h2) hbr9.out.size).lower hB4.out.size)
          clear hb9
          unfold vtext
          refine ⟨(hSiH.out _).2 ⟨r1, r2, r3, r4⟩, ?_⟩
          go_wp2_with fail
          refine ⟨(hSiH.out _).2 ⟨cell_alloc r1 _, cell_alloc r2 _, cell_alloc r3 _, cell_alloc r4 _⟩, ?_⟩
          have hown := Lib.hid (show ∀ b, v'.ownBlock = some b → w4.heap.size ≤ b from fun b hb => (hbagA.out.lt b hb).1)
          have hFl := Lib.hid (show FK (fun b => w.heap.size ≤ b ∧ b < w9.heap.size ∧ some b ≠ v'.ownBlock) w9 (lst (lhave l)) [.bool true, .string ⟨#[]⟩, .slice Ah k ch] by
            unfold lst FK
            rw [show (lhave l).length = k from by unfold lhave; rw [List.length_map]; exact hNH.out.symm]
            refine ⟨Ah, ch, rfl, hclH.out, by have := hmL.out; omega, FKs.move (fun b hb => ⟨⟨by have := hB3.out.size; omega, by have := hbr9.out.size; have := hsz.out; omega, fun e => by have := hown.out b e.symm; omega⟩, (hbr9.out.block b (by have := hsz.out; omega)).trans (hTA.out.block b hb.2 (fun e => e))⟩) _ Ah 0 hksH.out⟩)
          have hlen := Lib.hid (show (lnums vs).length = 6 from by unfold lnums; rw [List.length_map]; exact hvs6.out)
          go_wp2_with (at_builtin; refine bag_app (G := [lst (lhave l), txt p.data.toList]) (by rfl) _ _ _ (by rfl) Tryz.underlying50 (by rfl) 6 2 2 (by rfl) (by rfl) hbag9.out ⟨_, _, _, _, rfl, hFl.out, FC.texts _⟩ hlen.out (by rfl) (by omega) (by omega) hBw9.out.size ?_; intro g10 cap10 w10 hbag10 hgrew10)
          have hB10 := Lib.hid (hgrew10.below hBw9.out hBw9.out.size (fun b hb => Nat.le_trans hB4.out.size (hown.out b hb)))
          have hbh' := hgbh.out
          have hgs' := hgs.out
          have u1 := hgrew10.cell r1 (fun e => by have := hown.out _ e.symm; have := heap_lt hh4.out; simp only at *; omega)
          have u2 := hgrew10.cell r2 (fun e => by have := hown.out _ e.symm; have := heap_lt hh4.out; simp only at *; omega)
          have u3 := hgrew10.cell r3 (fun e => by have := hown.out _ e.symm; have := heap_lt hh4.out; simp only at *; omega)
          have u4 := hgrew10.cell r4 (fun e => by have := hown.out _ e.symm; have := heap_lt hl4.out; simp only at *; omega)
          refine ⟨(hSiH.out _).2 ⟨u1, u2, u3, u4⟩, ?_⟩
          repeat (go_big_quiet_step (fail))
          refine wpQuiet_nil ?_
          have hbag10H := Lib.hid hbag10
          clear hbag10 hgrew10 r1 r2 r3 r4 u1 u2 u3 u4 d1 d2 d3 d4 s1 s2 s3 s4
          go_wp2_with fail
          go_ret
          refine ⟨_, _, rfl, ?_, hB10.out⟩
          have hb := hbag10H.out
          rw [hvs.out] at hb
          exact hb
end Go.Proofs.YtbefkoljcacpcaaGreatDoor.Wi
set_option linter.unusedVariables false
set_option linter.unusedSimpArgs false
namespace Go.Proofs.YtbefkoljcacpcaaGreatDoor.Wi
open Go Go.RowKit Go.Proofs.YtbefkoljcacpcaaGreatDoorW.PrintWords Go.Proofs.YtbefkoljcacpcaaGreatDoor.B Go.Proofs.YtbefkoljcacpcaaGreatDoor.Tm
theorem lbody_length {v : List Int} (l : List ByteArray) (p : ByteArray) (hv : v.length = 6) : (lbody v l p).length = 8 := by
  unfold lbody lnums
  simp [hv]
def RSumSaid : Prop := ∀ (s : ByteArray) (w : World), s.size ≤ 100000 → Calls Tryz.prog 27 #[.string s] w fun e w' => e = .returned (.string (Sha.sha Sha.K Sha.H0 s)) ∧ Tch (fun _ => False) w w'
theorem bag_fv {base : Nat} {w : World} {A : Option Addr} {n c : Nat} {L : List F} (h : Bag base w (.slice A n c) L) (hn : L.length = n) (hn' : n ≤ 1000000) : FV w.heap.size w (lst L) [.bool true, .string ⟨#[]⟩, .slice A n c] := by
  obtain ⟨A', c', e, h1, h2, h3⟩ := h.form
  injection e with e1 e2 e3
  subst e1 e3 hn
  refine FK.toFV (ok := fun b => base ≤ b ∧ b < w.heap.size) (fun b hb => hb.2) _ _ ?_
  unfold lst FK
  exact ⟨A, c, rfl, h1, by omega, h3⟩
set_option maxRecDepth 100000 in
set_option maxHeartbeats 8000000 in
theorem rdigest_c (hRS : RSumSaid) (v0 v1 v2 v3 v4 v5 : Int) (A : Option Addr) (c : Nat) (l : List ByteArray) (p : ByteArray) (w : World) (hC : Kd.C Kd.string w A l.length l) (hc : l.length ≤ c) (hr : wright [v0, v1, v2, v3, v4, v5] l p = true) :
    Calls Tryz.prog 10 #[.agg (letCells v0 v1 v2 v3 v4 v5 A l.length c p)] w fun ev w' => ev = .returned (.string (dg (lst (lbody [v0, v1, v2, v3, v4, v5] l p)).bytes)) ∧ Below w.heap.size w w' := by
  obtain ⟨hl128, _, _⟩ := wright_have hr
  obtain ⟨g, hgs⟩ : ∃ g, g = w.heap.size := ⟨_, rfl⟩
  obtain ⟨w1, hw1⟩ : ∃ w1, w1 = w.alloc (.cells (letCells v0 v1 v2 v3 v4 v5 A l.length c p) 24) := ⟨_, rfl⟩
  have hb1 := Lib.hid (show Below w.heap.size w w1 by rw [hw1]; exact (Below.refl _ _).alloc (Nat.le_refl _) _)
  have hg1 : LetAt w1 g v0 v1 v2 v3 v4 v5 A l.length c p := by unfold LetAt; rw [hw1, hgs]; exact heap_alloc_at _ _
  have CB := Lib.hid (rbody_c v0 v1 v2 v3 v4 v5 A c l p w1 (Kd.C_below hC hb1.out) hc hl128 (fun k hk => wright_nums hr k hk))
  obtain ⟨c0, c1, c2, c3, c4, c5, c6, c7, csh, _⟩ := let_facts hg1
  obtain ⟨n, hN⟩ : ∃ n, n = l.length := ⟨_, rfl⟩
  unfold letCells at hw1 CB ⊢
  rw [← hN] at hw1 CB c6 ⊢
  replace hN := Lib.hid hN
  have hrH := Lib.hid hr
  have h6 := Lib.hid (show ([v0, v1, v2, v3, v4, v5] : List Int).length = 6 from rfl)
  generalize ([v0, v1, v2, v3, v4, v5] : List Int) = vs at *
  clear hC hc hr hl128 hg1
  go_enter Tryz.func10, Tryz.ntmps10
  go_upto_region 1 with fail
  rw [← hw1, ← hgs]
  replace hw1 := Lib.hid hw1
  replace hgs := Lib.hid hgs
  go_wp2_with fail
  refine (CB.out).mono ?_
  rintro ev w2 ⟨A8, c8, rfl, hbag, hb2⟩
  have hFV := Lib.hid (bag_fv hbag (lbody_length l p h6.out) (by omega))
  have hb2H := Lib.hid (hb1.out.trans (hb2.mono hb1.out.size))
  clear hbag hb2 c0 c1 c2 c3 c4 c5 c6 c7 csh
  go_wp2_with fail
  refine (rwrite_c _ _ _ _ w2 hFV.out (lbody_right _ _ _) (by rw [lst_depth, lbody_depths]; omega) (by have := lbody_len h6.out hrH.out; omega)).mono ?_
  rintro ev w3 ⟨rfl, hb3⟩
  have hb3H := Lib.hid (hb2H.out.trans (hb3.mono hb2H.out.size))
  clear hb3
  obtain ⟨t, ht⟩ : ∃ t : ByteArray, t = ⟨(lst (lbody vs l p)).bytes.toArray⟩ := ⟨_, rfl⟩
  have htl := Lib.hid (show t.size ≤ 100000 by rw [ht]; show (lst (lbody vs l p)).bytes.toArray.size ≤ _; rw [List.size_toArray]; have := lbody_len h6.out hrH.out; omega)
  rw [← ht]
  replace ht := Lib.hid ht
  go_wp2_with fail
  refine (hRS t w3 htl.out).mono ?_
  rintro ev w4 ⟨rfl, hT4⟩
  have hb4 := Lib.hid (hb3H.out.trans (hT4.below (B := w.heap.size) hb3H.out.size (fun k hk _ => hk.elim)))
  clear hT4
  have hdg := Lib.hid (show dg (lst (lbody vs l p)).bytes = Sha.sha Sha.K Sha.H0 t by rw [ht.out]; rfl)
  generalize Sha.sha Sha.K Sha.H0 t = d at *
  go_wp2_with fail
  go_ret
  exact ⟨by rw [← hdg.out]; rfl, hb4.out⟩
end Go.Proofs.YtbefkoljcacpcaaGreatDoor.Wi
set_option linter.unusedVariables false
set_option linter.unusedSimpArgs false
namespace Go.Proofs.YtbefkoljcacpcaaGreatDoor.Wi
open Go Go.RowKit Go.Proofs.YtbefkoljcacpcaaGreatDoorW.PrintWords Go.Proofs.YtbefkoljcacpcaaGreatDoor.B Go.Proofs.YtbefkoljcacpcaaGreatDoor.Tm
def RWrPost (v : List Int) (l : List ByteArray) (p : ByteArray) (w : World) (ev : Ending) (w' : World) : Prop :=
  ev = .returned (if wright v l p then .tuple #[.string ⟨(lbytes v l p).toArray⟩, .int .i64 0] else .tuple #[.string ⟨#[]⟩, .int .i64 1]) ∧ Below w.heap.size w w'
set_option maxRecDepth 100000 in
set_option maxHeartbeats 8000000 in
theorem rwwrite_no (v0 v1 v2 v3 v4 v5 : Int) (A : Option Addr) (c : Nat) (l : List ByteArray) (p : ByteArray) (w : World) (hC : Kd.C Kd.string w A l.length l) (hc : l.length ≤ c) (hn : l.length ≤ 1000000000000) (hs : ∀ x ∈ l, x.size ≤ 140737488351232) (hr : wright [v0, v1, v2, v3, v4, v5] l p = false) :
    Calls Tryz.prog 11 #[.agg (letCells v0 v1 v2 v3 v4 v5 A l.length c p)] w (RWrPost [v0, v1, v2, v3, v4, v5] l p w) := by
  obtain ⟨g, hgs⟩ : ∃ g, g = w.heap.size := ⟨_, rfl⟩
  obtain ⟨w1, hw1⟩ : ∃ w1, w1 = w.alloc (.cells (letCells v0 v1 v2 v3 v4 v5 A l.length c p) 24) := ⟨_, rfl⟩
  have hb1 := Lib.hid (show Below w.heap.size w w1 by rw [hw1]; exact (Below.refl _ _).alloc (Nat.le_refl _) _)
  have hg1 : LetAt w1 g v0 v1 v2 v3 v4 v5 A l.length c p := by unfold LetAt; rw [hw1, hgs]; exact heap_alloc_at _ _
  have CR := Lib.hid (right17_c v0 v1 v2 v3 v4 v5 A c l p w1 (Kd.C_below hC hb1.out) hc hn hs)
  rw [hr] at CR
  obtain ⟨c0, c1, c2, c3, c4, c5, c6, c7, csh, _⟩ := let_facts hg1
  obtain ⟨n, hN⟩ : ∃ n, n = l.length := ⟨_, rfl⟩
  unfold RWrPost
  rw [hr]
  unfold letCells at hw1 CR ⊢
  rw [← hN] at hw1 CR c6 ⊢
  replace hN := Lib.hid hN
  clear hC hc hr hg1 hs
  go_enter Tryz.func11, Tryz.ntmps11
  go_upto_region 1 with fail
  rw [← hw1, ← hgs]
  replace hw1 := Lib.hid hw1
  replace hgs := Lib.hid hgs
  go_wp2_with fail
  refine (CR.out).mono ?_
  rintro ev w2 ⟨rfl, hb2⟩
  have hb2H := Lib.hid (hb1.out.trans (hb2.mono hb1.out.size))
  clear hb2
  go_wp2_with fail
  go_ret2
  exact ⟨rfl, hb2H.out⟩
set_option maxRecDepth 100000 in
set_option maxHeartbeats 8000000 in
theorem rwwrite_yes (hRS : RSumSaid) (v0 v1 v2 v3 v4 v5 : Int) (A : Option Addr) (c : Nat) (l : List ByteArray) (p : ByteArray) (w : World) (hC : Kd.C Kd.string w A l.length l) (hc : l.length ≤ c) (hs : ∀ x ∈ l, x.size ≤ 140737488351232) (hr : wright [v0, v1, v2, v3, v4, v5] l p = true) :
    Calls Tryz.prog 11 #[.agg (letCells v0 v1 v2 v3 v4 v5 A l.length c p)] w (RWrPost [v0, v1, v2, v3, v4, v5] l p w) := by
  obtain ⟨hl128, _, _⟩ := wright_have hr
  obtain ⟨g, hgs⟩ : ∃ g, g = w.heap.size := ⟨_, rfl⟩
  obtain ⟨w1, hw1⟩ : ∃ w1, w1 = w.alloc (.cells (letCells v0 v1 v2 v3 v4 v5 A l.length c p) 24) := ⟨_, rfl⟩
  have hb1 := Lib.hid (show Below w.heap.size w w1 by rw [hw1]; exact (Below.refl _ _).alloc (Nat.le_refl _) _)
  have hg1 : LetAt w1 g v0 v1 v2 v3 v4 v5 A l.length c p := by unfold LetAt; rw [hw1, hgs]; exact heap_alloc_at _ _
  have hg1H := Lib.hid hg1
  have CR := Lib.hid (right17_c v0 v1 v2 v3 v4 v5 A c l p w1 (Kd.C_below hC hb1.out) hc (by omega) hs)
  rw [hr] at CR
  have CB := fun W (h : Below w.heap.size w W) => Lib.hid (rbody_c v0 v1 v2 v3 v4 v5 A c l p W (Kd.C_below hC h) hc hl128 (fun k hk => wright_nums hr k hk))
  have CD := fun W (h : Below w.heap.size w W) => Lib.hid (rdigest_c hRS v0 v1 v2 v3 v4 v5 A c l p W (Kd.C_below hC h) hc hr)
  obtain ⟨c0, c1, c2, c3, c4, c5, c6, c7, csh, _⟩ := let_facts hg1
  obtain ⟨n, hN⟩ : ∃ n, n = l.length := ⟨_, rfl⟩
  unfold RWrPost
  rw [hr]
  have hrH := Lib.hid hr
  have h6 := Lib.hid (show ([v0, v1, v2, v3, v4, v5] : List Int).length = 6 from rfl)
  unfold letCells at hw1 CR CB CD hg1H ⊢
  rw [← hN] at hw1 CR CB CD c6 hg1H ⊢
  replace hN := Lib.hid hN
  generalize ([v0, v1, v2, v3, v4, v5] : List Int) = vs at *
  clear hC hc hr hg1 hs hl128
  go_enter Tryz.func11, Tryz.ntmps11
  go_upto_region 1 with fail
  rw [← hw1, ← hgs]
  replace hw1 := Lib.hid hw1
  replace hgs := Lib.hid hgs
  go_wp2_with fail
  refine (CR.out).mono ?_
  rintro ev w2 ⟨rfl, hb2⟩
  have hb2H := Lib.hid (hb1.out.trans (hb2.mono hb1.out.size))
  have hg2 := Lib.hid ((hb2.block _ (heap_lt hg1H.out)).trans hg1H.out)
  clear hb2 c0 c1 c2 c3 c4 c5 c6 c7 csh
  obtain ⟨S, hS⟩ : ∃ S : World → Prop, S = fun W => W.heap[g]? = some (.cells #[.int .i64 v0, .int .i64 v1, .int .i64 v2, .int .i64 v3, .int .i64 v4, .int .i64 v5, .slice A n c, .string p] 24 (0, 0)) := ⟨_, rfl⟩
  have hSi : ∀ W, S W ↔ W.heap[g]? = some (.cells #[.int .i64 v0, .int .i64 v1, .int .i64 v2, .int .i64 v3, .int .i64 v4, .int .i64 v5, .slice A n c, .string p] 24 (0, 0)) := fun W => by rw [hS]
  have hS0 : S w2.drew := (hSi _).2 hg2.out
  have s0 : ∀ X : InS S, X.val.cell? ⟨g, 0, none⟩ = some (.int .i64 v0) := fun X => (let_facts ((hSi X.val).1 X.mem)).1
  have s1 : ∀ X : InS S, X.val.cell? ⟨g, 1, none⟩ = some (.int .i64 v1) := fun X => (let_facts ((hSi X.val).1 X.mem)).2.1
  have s2 : ∀ X : InS S, X.val.cell? ⟨g, 2, none⟩ = some (.int .i64 v2) := fun X => (let_facts ((hSi X.val).1 X.mem)).2.2.1
  have s3 : ∀ X : InS S, X.val.cell? ⟨g, 3, none⟩ = some (.int .i64 v3) := fun X => (let_facts ((hSi X.val).1 X.mem)).2.2.2.1
  have s4 : ∀ X : InS S, X.val.cell? ⟨g, 4, none⟩ = some (.int .i64 v4) := fun X => (let_facts ((hSi X.val).1 X.mem)).2.2.2.2.1
  have s5 : ∀ X : InS S, X.val.cell? ⟨g, 5, none⟩ = some (.int .i64 v5) := fun X => (let_facts ((hSi X.val).1 X.mem)).2.2.2.2.2.1
  have s6 : ∀ X : InS S, X.val.cell? ⟨g, 6, none⟩ = some (.slice A n c) := fun X => (let_facts ((hSi X.val).1 X.mem)).2.2.2.2.2.2.1
  have s7 : ∀ X : InS S, X.val.cell? ⟨g, 7, none⟩ = some (.string p) := fun X => (let_facts ((hSi X.val).1 X.mem)).2.2.2.2.2.2.2.1
  have hne : Nonempty (InS S) := ⟨⟨w2.drew, hS0⟩⟩
  have hS0H := Lib.hid hS0
  have hSiH := Lib.hid hSi
  clear hS hSi hS0
  go_upto_region 3 with fail
  refine wp_region_mix S [0, 2] [.mem [0, 2], .keep 1, .keep 3, .keep 4, .keep 5, .keep 6, .pure [7], .last 8, .pure [9, 10, 11, 12]] (by kernel_rfl) (by kernel_rfl) hS0H.out ?_
  simp only [pick, List.getD_cons_zero, List.getD_cons_succ, wpMix]
  repeat (go_big_quiet_step (fail))
  refine wpQuiet_nil ?_
  have hb2D := Lib.hid (hb2H.out.drew)
  go_wp2_with (go_at_call 26; (with_reducible refine ((CB _ hb2D.out).out).mono ?_); rintro ev w3 ⟨A8, c8, rfl, hbag3, hb3⟩)
  have hB3 := Lib.hid (hb2D.out.trans (hb3.mono hb2D.out.size))
  have hg3 := Lib.hid ((hb3.block g (heap_lt hg2.out)).trans hg2.out)
  have hbag3H := Lib.hid hbag3
  have hz3 := Lib.hid hb3.size
  clear hbag3 hb3
  refine ⟨(hSiH.out _).2 hg3.out, ?_⟩
  go_wp2_with (go_at_call 10; (with_reducible refine ((CD _ hB3.out).out).mono ?_); rintro ev w4 ⟨rfl, hb4⟩)
  have hB4 := Lib.hid (hB3.out.trans (hb4.mono hB3.out.size))
  have hg4 := Lib.hid ((hb4.block g (heap_lt hg3.out)).trans hg3.out)
  have hbag4 := Lib.hid (hbag3H.out.keep (w' := w4) (fun b h1 h2 => hb4.block b h2) hb4.size)
  have hz4 := Lib.hid hb4.size
  clear hb4
  refine ⟨(hSiH.out _).2 hg4.out, ?_⟩
  obtain ⟨d, hd⟩ : ∃ d, d = dg (lst (lbody vs l p)).bytes := ⟨_, rfl⟩
  rw [← hd]
  have hdH := Lib.hid hd
  clear hd
  go_wp2_with (go_at_call 29; (with_reducible refine (rtext_c _ _).mono ?_); rintro ev w5 ⟨rfl, hb5⟩)
  have hB5 := Lib.hid (hB4.out.trans (hb5.mono hB4.out.size))
  have hg5 := Lib.hid ((hb5.block g (heap_lt hg4.out)).trans hg4.out)
  have hbag5 := Lib.hid (hbag4.out.keep (w' := w5) (fun b h1 h2 => hb5.block b h2) hb5.size)
  have hz5 := Lib.hid hb5.size
  clear hb5
  unfold vtext
  refine ⟨(hSiH.out _).2 hg5.out, ?_⟩
  go_wp2_with fail
  refine ⟨(hSiH.out _).2 ((heap_alloc_lt _ _ _ (heap_lt hg5.out)).trans hg5.out), ?_⟩
  have hbs := Lib.hid (show w2.drew.heap.size ≤ w5.heap.size from Nat.le_trans hz3.out (Nat.le_trans hz4.out hz5.out))
  go_wp2_with (at_builtin; refine bag_app (by rfl) _ _ _ (by rfl) Tryz.underlying50 (by rfl) 8 1 1 (by rfl) (by rfl) hbag5.out (FC.texts d) (lbody_length l p h6.out) (by rfl) (by omega) (by omega) hbs.out ?_; intro g7 cap7 w6 hbag6 hgrew6)
  have hgl2 := heap_lt hg2.out
  have hown := Lib.hid (show ∀ b, (Value.slice A8 8 c8).ownBlock = some b → w2.heap.size ≤ b from fun b hb => (hbag5.out.lt b hb).1)
  have hB6 := Lib.hid (hgrew6.below hB5.out hB5.out.size (fun b hb => Nat.le_trans hb2H.out.size (hown.out b hb)))
  have hg6 := hgrew6.heap hg5.out (fun e => by have := hown.out g e.symm; omega)
  refine ⟨(hSiH.out _).2 hg6, ?_⟩
  have hfv6 := Lib.hid (bag_fv (L := lfull vs l p) (n := 9) (by have := hbag6; unfold lfull; rw [← hdH.out]; exact this) (by unfold lfull; rw [List.length_append, lbody_length l p h6.out]; rfl) (by omega))
  clear hbag6 hgrew6 hg6 hgl2 s0 s1 s2 s3 s4 s5 s6 s7
  repeat (go_big_quiet_step (fail))
  refine wpQuiet_nil ?_
  go_wp2_with (go_at_call 25; (with_reducible refine (rwrite_c _ _ _ _ w6 hfv6.out (lfull_right _ _ _) (by rw [lst_depth, lfull_depths]; omega) (by have := lfull_len h6.out hrH.out; omega)).mono ?_); rintro ev w7 ⟨rfl, hb7⟩)
  simp only [stepPost]
  have hB7 := Lib.hid (hB6.out.trans (hb7.mono hB6.out.size))
  clear hb7
  have hlb := Lib.hid (show (lst (lfull vs l p)).bytes = lbytes vs l p from rfl)
  obtain ⟨t, ht⟩ : ∃ t : ByteArray, t = ⟨(lbytes vs l p).toArray⟩ := ⟨_, rfl⟩
  rw [hlb.out, ← ht]
  repeat (go_big_quiet_step (fail))
  refine wpQuiet_nil ?_
  replace ht := Lib.hid ht
  go_wp2_with fail
  go_ret2
  exact ⟨by first | rfl | (rw [if_pos rfl, ← ht.out]; rfl), hB7.out⟩
theorem rwwrite_c (hRS : RSumSaid) (v0 v1 v2 v3 v4 v5 : Int) (A : Option Addr) (c : Nat) (l : List ByteArray) (p : ByteArray) (w : World) (hC : Kd.C Kd.string w A l.length l) (hc : l.length ≤ c) (hn : l.length ≤ 1000000000000) (hs : ∀ x ∈ l, x.size ≤ 140737488351232) :
    Calls Tryz.prog 11 #[.agg (letCells v0 v1 v2 v3 v4 v5 A l.length c p)] w (RWrPost [v0, v1, v2, v3, v4, v5] l p w) := by
  cases hr : wright [v0, v1, v2, v3, v4, v5] l p with
  | true => exact rwwrite_yes hRS v0 v1 v2 v3 v4 v5 A c l p w hC hc hs hr
  | false => exact rwwrite_no v0 v1 v2 v3 v4 v5 A c l p w hC hc hn hs hr
end Go.Proofs.YtbefkoljcacpcaaGreatDoor.Wi
set_option linter.unusedVariables false
set_option linter.unusedSimpArgs false
namespace Go.Proofs.YtbefkoljcacpcaaGreatDoor.Tm
open Go Go.RowKit Go.Proofs.YtbefkoljcacpcaaGreatDoorW.PrintWords Go.Proofs.YtbefkoljcacpcaaGreatDoor.B
def IntRow (base : Nat) (W : World) (v : Value) (l : List Int) : Prop := W.ownsRow base 3 1 v l.length (l.map fun s => .int .i64 s)
theorem IntRow.nil (base : Nat) (W : World) : IntRow base W (.slice none 0 0) [] := ⟨rfl, .inl ⟨rfl, rfl⟩⟩
theorem IntRow.lt {base : Nat} {W : World} {v : Value} {l : List Int} (h : IntRow base W v l) (k : Nat) (hk : v.ownBlock = some k) : base ≤ k ∧ k < W.heap.size := by
  have := World.ownsRow.lt h k hk
  exact ⟨this.1, this.2⟩
theorem IntRow.keep {base : Nat} {W W' : World} {v : Value} {l : List Int} (h : IntRow base W v l) (hk : ∀ b, base ≤ b → b < W.heap.size → W'.heap[b]? = W.heap[b]?) : IntRow base W' v l := by
  have hlt := h.lt
  obtain ⟨k1, k2⟩ := h
  refine ⟨k1, ?_⟩
  rcases k2 with k2 | ⟨g, cap, cur, e1, e2, e3, e4⟩
  · exact .inl k2
  · have := hlt g (by rw [e1]; rfl)
    exact .inr ⟨g, cap, cur, e1, e2, (hk g e2 this.2).trans e3, e4⟩
theorem IntRow.cell {base : Nat} {W : World} {v : Value} {l : List Int} (h : IntRow base W v l) (h0 : 0 < l.length) : ∃ g c, v = .slice (some ⟨g, 0, none⟩) l.length c ∧ base ≤ g ∧ g < W.heap.size ∧ ∀ j, j < l.length → W.cell? ⟨g, j, none⟩ = some (.int .i64 (l.getD j 0)) := by
  have hlt := h.lt
  obtain ⟨k1, k2⟩ := h
  rcases k2 with ⟨rfl, h1⟩ | ⟨g, cap, cur, rfl, e2, e3, e4, e5, e6, e7⟩
  · omega
  · refine ⟨g, cap, rfl, e2, (hlt g rfl).2, fun j hj => ?_⟩
    rw [cell_of e3]
    have : (l.map fun s => Value.int .i64 s)[j]? = some (.int .i64 (l.getD j 0)) := by rw [List.getElem?_map, List.getElem?_eq_getElem hj, List.getD_eq_getElem?_getD, List.getElem?_eq_getElem hj]; rfl
    rw [← e7, List.getElem?_take, if_pos (by omega), Array.getElem?_toList] at this
    exact this
theorem infoI : ∃ i, Tryz.prog.info? 3 = some i ∧ i.zero = some (.int .i64 0) ∧ i.size = 1 ∧ i.bytes = 8 := by
  have h : (Tryz.prog.info? 3).map (fun i => (i.zero, i.size, i.bytes)) = some (some (.int .i64 0), 1, 8) := by kernel_rfl
  match hi : Tryz.prog.info? 3, h with
  | some i, h =>
    simp only [Option.map_some, Option.some.injEq, Prod.mk.injEq] at h
    exact ⟨i, rfl, h.1, h.2.1, h.2.2⟩
theorem int_app {ops : Array Oper} {rest : List Oper} {o : Oper} {a : Act} {Q : Exit → Act → World → Prop} {base : Nat} {w : World} {v : Value} {l : List Int} {x : Int} (hgd : o.guard = none) (s y : Operand) (t : TypeId)
    (ho : o.op = .call { callee := .builtin .append, args := #[s, y], argTypes := #[t, t] }) (ht : Tryz.prog.underlying t = some (.slice 3))
    (hs : a.eval s = v) (n c : Nat) (hx : a.eval y = .slice (some ⟨w.heap.size, 0, none⟩) 1 c) (hrow : IntRow base w v l) (hn : l.length = n) (hb : n ≤ 1000000) (hbase : base ≤ w.heap.size)
    (h : ∀ g cap w', IntRow base w' (.slice (some ⟨g, 0, none⟩) (n + 1) cap) (l ++ [x]) → Grew v w w' → wpList Tryz.prog ops Q rest (a.put o.dst (.slice (some ⟨g, 0, none⟩) (n + 1) cap)) w') :
    wpList Tryz.prog ops Q (o :: rest) a (w.alloc (.cells #[.int .i64 x] 3)) := by
  subst hn
  obtain ⟨iF, hiF, hzF, hsF, hbF⟩ := infoI
  have hown := hrow
  unfold IntRow at hown
  refine wpList_append_lies _ hgd s y t ho base 3 iF _ 1 8 ht hiF hzF hsF hbF rfl (by omega) v l.length _ hs (hown.alloc _) ⟨w.heap.size, 0, none⟩ 1 c [.int .i64 x] hx rfl (World.news_of_block (heap_alloc_at w _)) (fun u hu => by rw [List.mem_singleton] at hu; subst hu; rfl) (by omega) (by unfold maxLen; omega) (by omega) (by simp; omega) (w.heap.size + 1) (by simp) ?_
  intro g cap w' hown' hgrow hat hlt
  have hsz := hgrow.size
  rw [size_alloc] at hsz
  refine h g cap w' ?_ ⟨by omega, hgrow.os, hgrow.tape, hgrow.output, fun k h1 h2 => (hgrow.block k (by rw [size_alloc]; omega) h2).trans (heap_alloc_lt w _ _ h1)⟩
  unfold IntRow
  rw [List.map_append, List.length_append]
  exact hown'
end Go.Proofs.YtbefkoljcacpcaaGreatDoor.Tm
set_option linter.unusedVariables false
set_option linter.unusedSimpArgs false
namespace Go.Proofs.YtbefkoljcacpcaaGreatDoor.Tm
open Go Go.RowKit Go.Proofs.YtbefkoljcacpcaaGreatDoor.B Go.Proofs.YtbefkoljcacpcaaGreatDoor.Bld Go.Proofs.YtbefkoljcacpcaaGreatDoor.Sha
theorem dec_len_le (k : Nat) : ∀ n, n < 10 ^ (k + 1) → (Lib.decDigits n).length ≤ k + 1 := by
  induction k with
  | zero =>
    intro n hn
    rw [Lib.decDigits, dif_pos (by simpa using hn)]; simp
  | succ k ih =>
    intro n hn
    rw [Lib.decDigits]
    split
    · simp
    · rw [List.length_append]
      have := ih (n / 10) (by rw [Nat.pow_succ] at hn; omega)
      simp; omega
theorem itoa_len20 (n : Int) (h0 : -9223372036854775808 ≤ n) (h1 : n ≤ 9223372036854775807) : (Lib.itoa n).length ≤ 20 := by
  by_cases hn : 0 ≤ n
  · obtain ⟨m, rfl⟩ : ∃ m : Nat, n = (m : Int) := ⟨n.toNat, by omega⟩
    rw [Lib.itoa_nonneg]
    have := dec_len_le 18 m (by have : (10 : Nat) ^ (18 + 1) = 10000000000000000000 := by decide
                                omega)
    omega
  · obtain ⟨m, rfl, hm⟩ : ∃ m : Nat, n = -(m : Int) ∧ 1 ≤ m := ⟨(-n).toNat, by omega, by omega⟩
    rw [Lib.itoa_neg m hm, List.length_cons]
    have := dec_len_le 18 m (by have : (10 : Nat) ^ (18 + 1) = 10000000000000000000 := by decide
                                omega)
    omega
def RNumPost (fb : Bool) (t : ByteArray) (nl : Nat) (least most : Int) (w : World) (ev : Ending) (w' : World) : Prop :=
  ∃ x er, ev = .returned (.tuple #[.int .i64 x, .int .i64 er]) ∧ (er = 0 ∨ er = 5) ∧ (er = 0 → least ≤ x ∧ x ≤ most) ∧
    (∀ n, least ≤ n → n ≤ most → fb = false → nl = 0 → t.data.toList = Lib.itoa n → er = 0 ∧ x = n) ∧ Below w.heap.size w w'
theorem rnum_no {fb : Bool} {t : ByteArray} {nl : Nat} {least most : Int} {w w' : World} (hb : Below w.heap.size w w')
    (h : ∀ n, least ≤ n → n ≤ most → fb = false → nl = 0 → t.data.toList = Lib.itoa n → False) : RNumPost fb t nl least most w (.returned (.tuple #[.int .i64 0, .int .i64 5])) w' :=
  ⟨0, 5, rfl, .inr rfl, fun h => (by cases h), fun n h1 h2 h3 h4 h5 => (h n h1 h2 h3 h4 h5).elim, hb⟩
theorem rnum_no' {fb : Bool} {t : ByteArray} {nl : Nat} {least most : Int} {w w' : World} (hb : Below w.heap.size w w')
    (h : ∀ n, least ≤ n → n ≤ most → t.data.toList = Lib.itoa n → False) : RNumPost fb t nl least most w (.returned (.tuple #[.int .i64 0, .int .i64 5])) w' := rnum_no hb fun n h1 h2 _ _ h5 => h n h1 h2 h5
def NInv (l : List UInt8) (k : Nat) (v : Nat) : Prop := k ≤ l.length ∧ v = val (l.take k) ∧ v ≤ 9223372036854775808 ∧ ∀ j, j < k → ∀ c, l[j]? = some c → isD c
theorem ninv_zero (l : List UInt8) : NInv l 0 0 := ⟨Nat.zero_le _, rfl, by omega, fun j hj => absurd hj (by omega)⟩
theorem ninv_step {l : List UInt8} {k v : Nat} {c : UInt8} (h : NInv l k v) (hc : l[k]? = some c) (hd : isD c) (hv : 10 * v + (c.toNat - 48) ≤ 9223372036854775808) : NInv l (k + 1) (10 * v + (c.toNat - 48)) := by
  obtain ⟨h1, h2, h3, h4⟩ := h
  have hk := (List.getElem?_eq_some_iff.1 hc).1
  refine ⟨by omega, by rw [take_at hc, val_snoc, ← h2], hv, fun j hj d hdj => ?_⟩
  by_cases e : j = k
  · subst e; rw [hc] at hdj; rw [← Option.some.inj hdj]; exact hd
  · exact h4 j (by omega) d hdj
def MagOf (below : Bool) (l : List UInt8) (n : Int) : Prop := ∃ m : Nat, l = Lib.decDigits m ∧ n = (if below then -(m : Int) else (m : Int)) ∧ (below = false → m ≤ 9223372036854775807) ∧ m ≤ 9223372036854775808
theorem mag_big {below : Bool} {l : List UInt8} {n : Int} {k v : Nat} {c : UInt8} (hm : MagOf below l n) (h : NInv l k v) (hc : l[k]? = some c) (hv : 9223372036854775808 < 10 * v + (c.toNat - 48)) : False := by
  obtain ⟨m, rfl, _, _, hm⟩ := hm
  have h2 := val_le_append ((Lib.decDigits m).drop (k + 1)) ((Lib.decDigits m).take (k + 1))
  rw [List.take_append_drop, val_dec, take_at hc, val_snoc, ← h.2.1] at h2
  omega
theorem mag_nod {below : Bool} {l : List UInt8} {n : Int} {k : Nat} {c : UInt8} (hm : MagOf below l n) (hc : l[k]? = some c) (hd : ¬ isD c) : False := by
  obtain ⟨m, rfl, _⟩ := hm
  obtain ⟨hk, e⟩ := List.getElem?_eq_some_iff.1 hc
  exact hd (dec_digit m c (by rw [← e]; exact List.getElem_mem hk))
theorem mag_end {below : Bool} {l : List UInt8} {n : Int} {v : Nat} (hm : MagOf below l n) (h : NInv l l.length v) : n = (if below then -(v : Int) else (v : Int)) ∧ (below = false → v ≤ 9223372036854775807) := by
  obtain ⟨m, e, h1, h2, _⟩ := hm
  have h3 := h.2.1
  rw [List.take_length, e, val_dec] at h3
  rw [h3]
  exact ⟨h1, h2⟩
theorem mag_neg {t u : List UInt8} {n : Int} (h0 : -9223372036854775808 ≤ n) (h1 : n ≤ 9223372036854775807) (ht : t = 45 :: u) (h : t = Lib.itoa n) : MagOf true u n := by
  by_cases hn : 0 ≤ n
  · exfalso
    obtain ⟨m, rfl⟩ : ∃ m : Nat, n = (m : Int) := ⟨n.toNat, by omega⟩
    rw [Lib.itoa_nonneg] at h
    have := dec_digit m 45 (by rw [← h, ht]; simp)
    simp at this
  · obtain ⟨m, rfl, hm⟩ : ∃ m : Nat, n = -(m : Int) ∧ 1 ≤ m := ⟨(-n).toNat, by omega, by omega⟩
    rw [Lib.itoa_neg m hm, ht] at h
    exact ⟨m, (List.cons.inj h).2, rfl, fun h => (by cases h), by omega⟩
theorem mag_pos {t : List UInt8} {n : Int} (h0 : -9223372036854775808 ≤ n) (h1 : n ≤ 9223372036854775807) (ht : t[0]? ≠ some 45) (h : t = Lib.itoa n) : MagOf false t n := by
  by_cases hn : 0 ≤ n
  · obtain ⟨m, rfl⟩ : ∃ m : Nat, n = (m : Int) := ⟨n.toNat, by omega⟩
    rw [Lib.itoa_nonneg] at h
    exact ⟨m, h, rfl, fun _ => by omega, by omega⟩
  · exfalso
    obtain ⟨m, rfl, hm⟩ : ∃ m : Nat, n = -(m : Int) ∧ 1 ≤ m := ⟨(-n).toNat, by omega, by omega⟩
    rw [Lib.itoa_neg m hm] at h
    rw [h] at ht
    simp at ht
def NBad1 (fb : Bool) (nl : Nat) (t : ByteArray) (bad : Bool) : Prop := (bad = true → fb = true ∨ nl ≠ 0 ∨ 20 < t.size) ∧ (bad = false → fb = false ∧ nl = 0 ∧ t.size ≤ 20)
def NBad2 (t : ByteArray) (below : Bool) : Prop := (below = true → t.data.toList[0]? = some 45) ∧ (below = false → t.data.toList[0]? ≠ some 45)
set_option maxRecDepth 100000 in
set_option maxHeartbeats 16000000 in
theorem rnumber_c (fb : Bool) (t : ByteArray) (A : Option Addr) (nl c : Nat) (least most : Int) (hlo : -9223372036854775808 ≤ least) (hmo : most ≤ 9223372036854775807) (hnl : nl ≤ 140737488355328) (w : World) :
    Calls Tryz.prog 32 #[.agg #[.bool fb, .string t, .slice A nl c], .int .i64 least, .int .i64 most] w (RNumPost fb t nl least most w) := by
  obtain ⟨w0, hw0⟩ : ∃ w0, w0 = w.alloc (.cells #[.bool fb, .string t, .slice A nl c] 52) := ⟨_, rfl⟩
  have hb0 : Below w.heap.size w w0 := by rw [hw0]; exact (Below.refl _ _).alloc (Nat.le_refl _) _
  have hx0 : w0.heap[w.heap.size]? = some (.cells #[.bool fb, .string t, .slice A nl c] 52 (0, 0)) := by rw [hw0]; exact heap_alloc_at _ _
  obtain ⟨k0, k1, k2, _, _⟩ := blk3 hx0
  have l1 := Lib.hid (Lat.cell k1)
  replace hb0 := Lib.hid hb0
  have hloH := Lib.hid hlo
  have hmoH := Lib.hid hmo
  have htl := Lib.hid (toList_size t)
  clear hx0 hlo hmo
  go_enter Tryz.func32, Tryz.ntmps32
  go_upto_region 1 with fail
  rw [← hw0]
  replace hw0 := Lib.hid hw0
  go_cut [25] (fun v wc => ∃ bad : Bool, v = .bool bad ∧ wc = w0 ∧ NBad1 fb nl t bad)
  case first =>
    cases fb with
    | true =>
      go_wp2_with fail
      go_meet
      case rel => exact ⟨_, rfl, rfl, fun _ => .inl rfl, fun h => (by cases h)⟩
    | false =>
      by_cases hn : 0 < nl
      · have hni : (0 : Int) < (nl : Int) := by omega
        go_wp2_with fail
        go_meet
        case rel => exact ⟨_, rfl, rfl, fun _ => .inr (.inl (by omega)), fun h => (by cases h)⟩
      · have hni : ¬ (0 : Int) < (nl : Int) := by omega
        by_cases hs : 20 < t.size
        · have hsi : (20 : Int) < (t.size : Int) := by omega
          go_wp2_with fail
          go_meet
          case rel => exact ⟨_, rfl, rfl, fun _ => .inr (.inr hs), fun h => (by cases h)⟩
        · have hsi : ¬ (20 : Int) < (t.size : Int) := by omega
          go_wp2_with fail
          go_meet
          case rel => exact ⟨_, rfl, rfl, fun h => (by cases h), fun _ => ⟨rfl, by omega, by omega⟩⟩
  case rest =>
    obtain ⟨bad, rfl, rfl, hbad, hgood⟩ := hcut
    cases bad with
    | true =>
      have hno := Lib.hid (show ∀ n, least ≤ n → n ≤ most → fb = false → nl = 0 → t.data.toList = Lib.itoa n → False by
        intro n h1 h2 h3 h4 h5
        rcases hbad rfl with h | h | h
        · rw [h3] at h; cases h
        · exact h h4
        · have := itoa_len20 n (by have := hloH.out; omega) (by have := hmoH.out; omega)
          rw [← h5, htl.out] at this
          omega)
      clear hbad hgood
      go_wp2_with fail
      go_ret2
      exact rnum_no hb0.out hno.out
    | false =>
      obtain ⟨rfl, rfl, hs20⟩ := hgood rfl
      have hs20i : (t.size : Int) ≤ 20 := by omega
      clear hbad hgood
      go_upto_region 4 with fail
      go_cut [9] (fun v w2 => ∃ below : Bool, v = .bool below ∧ w2 = wc ∧ NBad2 t below)
      case first =>
        by_cases hz : t.size = 0
        · have hnil : t.data.toList = [] := List.eq_nil_of_length_eq_zero (by rw [htl.out]; exact hz)
          have hre : t.toList = [] := by rw [ByteArray.toList_eq]; exact hnil
          have hn := Lib.hid (show t.data.toList[0]? ≠ some 45 by rw [hnil]; simp)
          clear hnil
          go_wp2_with fail
          go_meet
          case rel => exact ⟨_, rfl, rfl, fun h => (by cases h), fun _ => hn.out⟩
        · have hre1 : ¬ t.toList = [] := by rw [ByteArray.toList_eq]; intro e; have := htl.out; rw [e] at this; simp at this; omega
          have hre2 : t.toList.isEmpty = false := by simpa using hre1
          have hrp : 0 < t.size := by omega
          have hrpi : (0 : Int) < (t.size : Int) := by omega
          have hl0 := Lib.hid (show t.data.toList[0]? = some (t[0]'hrp) by rw [Array.getElem?_toList, Array.getElem?_eq_getElem hrp]; rfl)
          by_cases h45 : t[0]'hrp = 45
          · have q45 : (((t[0]'hrp).toNat : Int) == 45) = true := by rw [h45]; rfl
            have hy := Lib.hid (show t.data.toList[0]? = some 45 by rw [hl0.out, h45])
            clear h45
            go_wp2_with fail
            go_meet
            case rel => exact ⟨_, rfl, rfl, fun _ => hy.out, fun h => (by cases h)⟩
          · have q45 : (((t[0]'hrp).toNat : Int) == 45) = false := by
              rw [beq_eq_false_iff_ne]
              intro h
              exact h45 (UInt8.toNat_inj.1 (by have : ((45 : UInt8).toNat : Int) = 45 := rfl; omega))
            have hy := Lib.hid (show t.data.toList[0]? ≠ some 45 by rw [hl0.out]; simpa using h45)
            clear h45
            go_wp2_with fail
            go_meet
            case rel => exact ⟨_, rfl, rfl, fun h => (by cases h), fun _ => hy.out⟩
      case rest =>
        obtain ⟨below, rfl, rfl, hbt, hbf⟩ := hcut
        cases below with
        | true =>
          have h45 := hbt rfl
          have h1s : 1 ≤ t.size := by rw [← htl.out]; have := (List.getElem?_eq_some_iff.1 h45).1; omega
          have h1si : (1 : Int) ≤ (t.size : Int) := by omega
          obtain ⟨u, hu⟩ : ∃ u, u = t.extract 1 t.size := ⟨_, rfl⟩
          have hut := Lib.hid (show t.data.toList = 45 :: u.data.toList by
            rw [hu, extract_toList]
            generalize t.data.toList = q at *
            cases q with
            | nil => cases h45
            | cons x q =>
              simp only [List.getElem?_cons_zero, Option.some.injEq] at h45
              rw [h45]; rfl)
          have hmag := Lib.hid (show ∀ n, least ≤ n → n ≤ most → t.data.toList = Lib.itoa n → MagOf true u.data.toList n from fun n a b h => mag_neg (by have := hloH.out; omega) (by have := hmoH.out; omega) hut.out h)
          have hus : u.size ≤ 20 := by rw [← toList_size]; have := congrArg List.length hut.out; rw [htl.out, List.length_cons] at this; omega
          clear hbt hbf h45
          go_upto_region 7 with fail
          rw [← hu]
          replace hu := Lib.hid hu
          have hul := Lib.hid (toList_size u)
          have husi : (u.size : Int) ≤ 20 := by omega
          go_wp2_with fail
          go_loopg [10, 11] u.size (fun g' v i W => ∃ k m : Nat, g' = u.size - k ∧ v = .int .i64 (-(m : Int)) ∧ i = .int .i64 k ∧ NInv u.data.toList k m ∧ W = wc)
          case atStart => exact ⟨0, 0, rfl, rfl, rfl, ninv_zero _, rfl⟩
          case round =>
            obtain ⟨k, m, hg', rfl, rfl, hI, rfl⟩ := hrel
            subst hg'
            have hkl := hI.1
            rw [hul.out] at hkl
            have hm63 := hI.2.2.1
            have hIH := Lib.hid hI
            clear hI
            by_cases hkn : k < u.size
            · have hki : (k : Int) < (u.size : Int) := by omega
              have hix := fun (W : World) => str_idx (P := Tryz.prog) Tryz.underlying9 u k hkn W
              have hat := Lib.hid (getD_some (l := u.data.toList) (k := k) (by rw [hul.out]; exact hkn))
              generalize u.data.toList.getD k 0 = a at *
              obtain ⟨b, hb⟩ : ∃ b, b = a.toNat := ⟨_, rfl⟩
              have hb256 : b < 256 := by rw [hb]; exact a.toNat_lt
              rw [← hb] at hix
              replace hb := Lib.hid hb
              by_cases hd : 48 ≤ b ∧ b ≤ 57
              · obtain ⟨hd1, hd2⟩ := hd
                have hdH := Lib.hid (show isD a by unfold isD; rw [← hb.out]; exact ⟨hd1, hd2⟩)
                have g1 : ¬ (b : Int) < 48 := by omega
                have g2 : ¬ (57 : Int) < (b : Int) := by omega
                have gw : ((b : Int) - 48) % 256 = (b : Int) - 48 := by omega
                have gq : Int.tdiv (-9223372036854775808 + ((b : Int) - 48)) 10 = -((9223372036854775808 - ((b : Int) - 48)) / 10) := by
                  rw [show (-9223372036854775808 + ((b : Int) - 48)) = -(9223372036854775808 - ((b : Int) - 48)) from by omega, Int.neg_tdiv, Int.tdiv_eq_ediv_of_nonneg (by omega)]
                by_cases hbg : 9223372036854775808 < 10 * m + (b - 48)
                · have hno := Lib.hid (show ∀ n, least ≤ n → n ≤ most → t.data.toList = Lib.itoa n → False from fun n a1 b1 h => mag_big (hmag.out n a1 b1 h) hIH.out hat.out (by rw [← hb.out]; exact hbg))
                  have q1 : -(m : Int) < -((9223372036854775808 - ((b : Int) - 48)) / 10) := by omega
                  clear hbg
                  go_wp2_with fail
                  go_ret2
                  exact rnum_no' hb0.out hno.out
                · have q1 : ¬ -(m : Int) < -((9223372036854775808 - ((b : Int) - 48)) / 10) := by omega
                  have hs1 := Lib.hid (ninv_step hIH.out hat.out hdH.out (by rw [← hb.out]; omega))
                  rw [← hb.out] at hs1
                  have gs := Lib.hid (show -(((10 * m + (b - 48) : Nat)) : Int) = -(m : Int) * 10 - ((b : Int) - 48) by omega)
                  clear hbg
                  go_wp2_with fail
                  go_roundg (u.size - (k + 1))
                  case measure => omega
                  case rel => exact ⟨k + 1, _, rfl, by rw [gs.out], by go_num, hs1.out, rfl⟩
              · have hdH := Lib.hid (show ¬ isD a by unfold isD; rw [← hb.out]; exact hd)
                have hno := Lib.hid (show ∀ n, least ≤ n → n ≤ most → t.data.toList = Lib.itoa n → False from fun n a1 b1 h => mag_nod (hmag.out n a1 b1 h) hat.out hdH.out)
                by_cases g1 : (b : Int) < 48
                · clear hd
                  go_wp2_with fail
                  go_ret2
                  exact rnum_no' hb0.out hno.out
                · have g2 : (57 : Int) < (b : Int) := by omega
                  clear hd
                  go_wp2_with fail
                  go_ret2
                  exact rnum_no' hb0.out hno.out
            · have hkn' : k = u.size := by omega
              subst hkn'
              have hki : ¬ (u.size : Int) < (u.size : Int) := by omega
              have hend := Lib.hid (show ∀ n, least ≤ n → n ≤ most → t.data.toList = Lib.itoa n → n = -(m : Int) ∧ (True) from fun n a1 b1 h => by
                have := mag_end (hmag.out n a1 b1 h) (by rw [hul.out]; exact hIH.out)
                exact ⟨this.1, by trivial⟩)
              obtain ⟨N, hN⟩ : ∃ N : Int, N = -(m : Int) := ⟨_, rfl⟩
              have hNe := Lib.hid (show ∀ n, least ≤ n → n ≤ most → t.data.toList = Lib.itoa n → n = N from fun n a1 b1 h => by rw [hN]; exact (hend.out n a1 b1 h).1)
              have hN0 : -9223372036854775808 ≤ N := by omega
              have hN1 : N ≤ 9223372036854775807 := by omega
              rw [← hN]
              replace hN := Lib.hid hN
              clear hmag
              have CD := fun (y : Lat wr) => Lib.hid (digits_c N hN0 hN1 y.val)
              have l1' := l1.out
              by_cases hit : t.data.toList = Lib.itoa N
              · have q1 : (Lib.itoa N == t.toList) = true := by rw [ByteArray.toList_eq, hit]; simp
                by_cases hl : N < least
                · have hno := Lib.hid (show ∀ n, least ≤ n → n ≤ most → t.data.toList = Lib.itoa n → False from fun n a1 b1 h => by have := hNe.out n a1 b1 h; omega)
                  go_upto_region 20 with fail
                  refine wp_region_lat (by kernel_rfl) (by kernel_rfl) ?_
                  repeat (go_big_quiet_step ((go_at_call 59; exact lat_of (CD _).out)))
                  refine wpQuiet_nil ?_
                  intro _ hw'
                  obtain ⟨xl, hw''⟩ := hw'
                  subst hw''
                  have hbx := Lib.hid xl.below
                  go_wp2_with fail
                  go_ret2
                  exact rnum_no' (hb0.out.trans (hbx.out.mono hb0.out.size)) hno.out
                · by_cases hm : most < N
                  · have hno := Lib.hid (show ∀ n, least ≤ n → n ≤ most → t.data.toList = Lib.itoa n → False from fun n a1 b1 h => by have := hNe.out n a1 b1 h; omega)
                    go_upto_region 20 with fail
                    refine wp_region_lat (by kernel_rfl) (by kernel_rfl) ?_
                    repeat (go_big_quiet_step ((go_at_call 59; exact lat_of (CD _).out)))
                    refine wpQuiet_nil ?_
                    intro _ hw'
                    obtain ⟨xl, hw''⟩ := hw'
                    subst hw''
                    have hbx := Lib.hid xl.below
                    go_wp2_with fail
                    go_ret2
                    exact rnum_no' (hb0.out.trans (hbx.out.mono hb0.out.size)) hno.out
                  ·
                    go_upto_region 20 with fail
                    refine wp_region_lat (by kernel_rfl) (by kernel_rfl) ?_
                    repeat (go_big_quiet_step ((go_at_call 59; exact lat_of (CD _).out)))
                    refine wpQuiet_nil ?_
                    intro _ hw'
                    obtain ⟨xl, hw''⟩ := hw'
                    subst hw''
                    have hbx := Lib.hid xl.below
                    go_wp2_with fail
                    go_ret2
                    exact ⟨N, 0, rfl, .inl rfl, fun _ => ⟨by omega, by omega⟩, fun n a1 b1 _ _ h => ⟨rfl, (hNe.out n a1 b1 h).symm⟩, hb0.out.trans (hbx.out.mono hb0.out.size)⟩
              · have q1 : (Lib.itoa N == t.toList) = false := by
                  rw [ByteArray.toList_eq, beq_eq_false_iff_ne]
                  exact fun e => hit e.symm
                have hno := Lib.hid (show ∀ n, least ≤ n → n ≤ most → t.data.toList = Lib.itoa n → False from fun n a1 b1 h => by have := hNe.out n a1 b1 h; subst this; exact hit h)
                go_upto_region 20 with fail
                refine wp_region_lat (by kernel_rfl) (by kernel_rfl) ?_
                repeat (go_big_quiet_step ((go_at_call 59; exact lat_of (CD _).out)))
                refine wpQuiet_nil ?_
                intro _ hw'
                obtain ⟨xl, hw''⟩ := hw'
                subst hw''
                have hbx := Lib.hid xl.below
                go_wp2_with fail
                go_ret2
                exact rnum_no' (hb0.out.trans (hbx.out.mono hb0.out.size)) hno.out

        | false =>
          have h45 := hbf rfl
          have hmag := Lib.hid (show ∀ n, least ≤ n → n ≤ most → t.data.toList = Lib.itoa n → MagOf false t.data.toList n from fun n a b h => mag_pos (by have := hloH.out; omega) (by have := hmoH.out; omega) h45 h)
          have hus : t.size ≤ 20 := hs20
          clear hbt hbf h45
          go_upto_region 7 with fail
          have hul := Lib.hid (toList_size t)
          have husi : (t.size : Int) ≤ 20 := by omega
          go_wp2_with fail
          go_loopg [10, 11] t.size (fun g' v i W => ∃ k m : Nat, g' = t.size - k ∧ v = .int .i64 (-(m : Int)) ∧ i = .int .i64 k ∧ NInv t.data.toList k m ∧ W = wc)
          case atStart => exact ⟨0, 0, rfl, rfl, rfl, ninv_zero _, rfl⟩
          case round =>
            obtain ⟨k, m, hg', rfl, rfl, hI, rfl⟩ := hrel
            subst hg'
            have hkl := hI.1
            rw [hul.out] at hkl
            have hm63 := hI.2.2.1
            have hIH := Lib.hid hI
            clear hI
            by_cases hkn : k < t.size
            · have hki : (k : Int) < (t.size : Int) := by omega
              have hix := fun (W : World) => str_idx (P := Tryz.prog) Tryz.underlying9 t k hkn W
              have hat := Lib.hid (getD_some (l := t.data.toList) (k := k) (by rw [hul.out]; exact hkn))
              generalize t.data.toList.getD k 0 = a at *
              obtain ⟨b, hb⟩ : ∃ b, b = a.toNat := ⟨_, rfl⟩
              have hb256 : b < 256 := by rw [hb]; exact a.toNat_lt
              rw [← hb] at hix
              replace hb := Lib.hid hb
              by_cases hd : 48 ≤ b ∧ b ≤ 57
              · obtain ⟨hd1, hd2⟩ := hd
                have hdH := Lib.hid (show isD a by unfold isD; rw [← hb.out]; exact ⟨hd1, hd2⟩)
                have g1 : ¬ (b : Int) < 48 := by omega
                have g2 : ¬ (57 : Int) < (b : Int) := by omega
                have gw : ((b : Int) - 48) % 256 = (b : Int) - 48 := by omega
                have gq : Int.tdiv (-9223372036854775808 + ((b : Int) - 48)) 10 = -((9223372036854775808 - ((b : Int) - 48)) / 10) := by
                  rw [show (-9223372036854775808 + ((b : Int) - 48)) = -(9223372036854775808 - ((b : Int) - 48)) from by omega, Int.neg_tdiv, Int.tdiv_eq_ediv_of_nonneg (by omega)]
                by_cases hbg : 9223372036854775808 < 10 * m + (b - 48)
                · have hno := Lib.hid (show ∀ n, least ≤ n → n ≤ most → t.data.toList = Lib.itoa n → False from fun n a1 b1 h => mag_big (hmag.out n a1 b1 h) hIH.out hat.out (by rw [← hb.out]; exact hbg))
                  have q1 : -(m : Int) < -((9223372036854775808 - ((b : Int) - 48)) / 10) := by omega
                  clear hbg
                  go_wp2_with fail
                  go_ret2
                  exact rnum_no' hb0.out hno.out
                · have q1 : ¬ -(m : Int) < -((9223372036854775808 - ((b : Int) - 48)) / 10) := by omega
                  have hs1 := Lib.hid (ninv_step hIH.out hat.out hdH.out (by rw [← hb.out]; omega))
                  rw [← hb.out] at hs1
                  have gs := Lib.hid (show -(((10 * m + (b - 48) : Nat)) : Int) = -(m : Int) * 10 - ((b : Int) - 48) by omega)
                  clear hbg
                  go_wp2_with fail
                  go_roundg (t.size - (k + 1))
                  case measure => omega
                  case rel => exact ⟨k + 1, _, rfl, by rw [gs.out], by go_num, hs1.out, rfl⟩
              · have hdH := Lib.hid (show ¬ isD a by unfold isD; rw [← hb.out]; exact hd)
                have hno := Lib.hid (show ∀ n, least ≤ n → n ≤ most → t.data.toList = Lib.itoa n → False from fun n a1 b1 h => mag_nod (hmag.out n a1 b1 h) hat.out hdH.out)
                by_cases g1 : (b : Int) < 48
                · clear hd
                  go_wp2_with fail
                  go_ret2
                  exact rnum_no' hb0.out hno.out
                · have g2 : (57 : Int) < (b : Int) := by omega
                  clear hd
                  go_wp2_with fail
                  go_ret2
                  exact rnum_no' hb0.out hno.out
            · have hkn' : k = t.size := by omega
              subst hkn'
              have hki : ¬ (t.size : Int) < (t.size : Int) := by omega
              have hend := Lib.hid (show ∀ n, least ≤ n → n ≤ most → t.data.toList = Lib.itoa n → n = (m : Int) ∧ (m ≤ 9223372036854775807) from fun n a1 b1 h => by
                have := mag_end (hmag.out n a1 b1 h) (by rw [hul.out]; exact hIH.out)
                exact ⟨this.1, by exact this.2 rfl⟩)
              by_cases h63 : m = 9223372036854775808
              · have hno := Lib.hid (show ∀ n, least ≤ n → n ≤ most → t.data.toList = Lib.itoa n → False from fun n a1 b1 h => by have := (hend.out n a1 b1 h).2; omega)
                have q63 : (-(m : Int) == -9223372036854775808) = true := by rw [beq_iff_eq]; omega
                clear h63
                go_wp2_with fail
                go_ret2
                exact rnum_no' hb0.out hno.out
              · have q63 : (-(m : Int) == -9223372036854775808) = false := by rw [beq_eq_false_iff_ne]; omega
                obtain ⟨N, hN⟩ : ∃ N : Int, N = (m : Int) := ⟨_, rfl⟩
                have hNe := Lib.hid (show ∀ n, least ≤ n → n ≤ most → t.data.toList = Lib.itoa n → n = N from fun n a1 b1 h => by rw [hN]; exact (hend.out n a1 b1 h).1)
                have hN0 : -9223372036854775808 ≤ N := by omega
                have hN1 : N ≤ 9223372036854775807 := by omega
                have hmN : -(m : Int) = -N := by omega
                rw [hmN] at q63 ⊢
                replace hN := Lib.hid hN
                clear hmag h63 hmN
                have CD := fun (y : Lat wr) => Lib.hid (digits_c N hN0 hN1 y.val)
                have l1' := l1.out
                by_cases hit : t.data.toList = Lib.itoa N
                · have q1 : (Lib.itoa N == t.toList) = true := by rw [ByteArray.toList_eq, hit]; simp
                  by_cases hl : N < least
                  · have hno := Lib.hid (show ∀ n, least ≤ n → n ≤ most → t.data.toList = Lib.itoa n → False from fun n a1 b1 h => by have := hNe.out n a1 b1 h; omega)
                    go_upto_region 20 with fail
                    refine wp_region_lat (by kernel_rfl) (by kernel_rfl) ?_
                    repeat (go_big_quiet_step ((go_at_call 59; exact lat_of (CD _).out)))
                    refine wpQuiet_nil ?_
                    intro _ hw'
                    obtain ⟨xl, hw''⟩ := hw'
                    subst hw''
                    have hbx := Lib.hid xl.below
                    go_wp2_with fail
                    go_ret2
                    exact rnum_no' (hb0.out.trans (hbx.out.mono hb0.out.size)) hno.out
                  · by_cases hm : most < N
                    · have hno := Lib.hid (show ∀ n, least ≤ n → n ≤ most → t.data.toList = Lib.itoa n → False from fun n a1 b1 h => by have := hNe.out n a1 b1 h; omega)
                      go_upto_region 20 with fail
                      refine wp_region_lat (by kernel_rfl) (by kernel_rfl) ?_
                      repeat (go_big_quiet_step ((go_at_call 59; exact lat_of (CD _).out)))
                      refine wpQuiet_nil ?_
                      intro _ hw'
                      obtain ⟨xl, hw''⟩ := hw'
                      subst hw''
                      have hbx := Lib.hid xl.below
                      go_wp2_with fail
                      go_ret2
                      exact rnum_no' (hb0.out.trans (hbx.out.mono hb0.out.size)) hno.out
                    ·
                      go_upto_region 20 with fail
                      refine wp_region_lat (by kernel_rfl) (by kernel_rfl) ?_
                      repeat (go_big_quiet_step ((go_at_call 59; exact lat_of (CD _).out)))
                      refine wpQuiet_nil ?_
                      intro _ hw'
                      obtain ⟨xl, hw''⟩ := hw'
                      subst hw''
                      have hbx := Lib.hid xl.below
                      go_wp2_with fail
                      go_ret2
                      exact ⟨N, 0, rfl, .inl rfl, fun _ => ⟨by omega, by omega⟩, fun n a1 b1 _ _ h => ⟨rfl, (hNe.out n a1 b1 h).symm⟩, hb0.out.trans (hbx.out.mono hb0.out.size)⟩
                · have q1 : (Lib.itoa N == t.toList) = false := by
                    rw [ByteArray.toList_eq, beq_eq_false_iff_ne]
                    exact fun e => hit e.symm
                  have hno := Lib.hid (show ∀ n, least ≤ n → n ≤ most → t.data.toList = Lib.itoa n → False from fun n a1 b1 h => by have := hNe.out n a1 b1 h; subst this; exact hit h)
                  go_upto_region 20 with fail
                  refine wp_region_lat (by kernel_rfl) (by kernel_rfl) ?_
                  repeat (go_big_quiet_step ((go_at_call 59; exact lat_of (CD _).out)))
                  refine wpQuiet_nil ?_
                  intro _ hw'
                  obtain ⟨xl, hw''⟩ := hw'
                  subst hw''
                  have hbx := Lib.hid xl.below
                  go_wp2_with fail
                  go_ret2
                  exact rnum_no' (hb0.out.trans (hbx.out.mono hb0.out.size)) hno.out
end Go.Proofs.YtbefkoljcacpcaaGreatDoor.Tm
