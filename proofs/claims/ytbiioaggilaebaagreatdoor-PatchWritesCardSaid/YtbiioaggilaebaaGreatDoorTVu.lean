/- What LawPatchWrites lean on, part u of 29: the texts PaG, PaR, PaH, PaS. -/
import Derived.Test.YtbiioaggilaebaaGreatDoorTVg
import Derived.Test.YtbiioaggilaebaaGreatDoorTVi
import Derived.Test.YtbiioaggilaebaaGreatDoorTVn
import Derived.Test.YtbiioaggilaebaaGreatDoorTVp
import Derived.Test.YtbiioaggilaebaaGreatDoorTVr
import Derived.Test.YtbiioaggilaebaaGreatDoorTVt
set_option linter.unusedVariables false
set_option linter.unusedSimpArgs false
namespace Go.Proofs.YtbiioaggilaebaaGreatDoor.Tm
open Go Go.RowKit Go.Proofs.YtbiioaggilaebaaGreatDoor.B Go.Proofs.YtbiioaggilaebaaGreatDoor.Bld
set_option maxRecDepth 100000 in
theorem numi_c (n : Int) (h0 : -9223372036854775808 ≤ n) (h1 : n ≤ 9223372036854775807) (w : World) (htab : Tab w) : Calls Tryz.prog 42 #[.int .i64 n] w fun ev w' => ev = .returned (vtext ⟨(Lib.itoa n).toArray⟩) ∧ Below w.heap.size w w' := by
  obtain ⟨w0, hw0⟩ : ∃ w0, w0 = w.alloc (.cells #[.bool false, .string ⟨#[]⟩, .slice none 0 0] 74) := ⟨_, rfl⟩
  have hb0 : Below w.heap.size w w0 := by rw [hw0]; exact (Below.refl _ _).alloc (Nat.le_refl _) _
  have hg : w0.heap[w.heap.size]? = some (.cells #[.bool false, .string ⟨#[]⟩, .slice none 0 0] 74 (0, 0)) := by rw [hw0]; exact heap_alloc_at _ _
  have CI := Lib.hid (itoa_int n h0 h1 w0 (htab.below hb0 (Nat.le_refl _)))
  have hgH := Lib.hid hg
  have hb0H := Lib.hid hb0
  clear hg hb0
  go_enter Tryz.func42, Tryz.ntmps42
  go_wp2_with fail
  rw [← hw0]
  replace hw0 := Lib.hid hw0
  refine (CI.out).mono ?_
  rintro ev w1 ⟨rfl, hb1⟩
  have hb1H := Lib.hid hb1
  clear hb1
  go_wp2_with fail
  refine (text_c _ w1).mono ?_
  rintro ev w2 ⟨rfl, hb2⟩
  have hg2 : w2.heap[w.heap.size]? = some (.cells #[.bool false, .string ⟨#[]⟩, .slice none 0 0] 74 (0, 0)) := by
    have hs := heap_lt hgH.out
    rw [hb2.block _ (Nat.lt_of_lt_of_le hs hb1H.out.size), hb1H.out.block _ hs]
    exact hgH.out
  have hbb := Lib.hid (hb0H.out.trans ((hb1H.out.mono (Nat.le_of_lt (heap_lt hgH.out))).trans (hb2.mono (Nat.le_trans (Nat.le_of_lt (heap_lt hgH.out)) hb1H.out.size))))
  unfold vtext
  have k0 : w2.cell? ⟨w.heap.size, 0, none⟩ = some (.bool false) := by rw [cell_of hg2]; rfl
  have k1 : w2.cell? ⟨w.heap.size, 1, none⟩ = some (.string ⟨#[]⟩) := by rw [cell_of hg2]; rfl
  have k2 : w2.cell? ⟨w.heap.size, 2, none⟩ = some (.slice none 0 0) := by rw [cell_of hg2]; rfl
  have hsh : w2.shape? w.heap.size = some (74, 3) := by simp [World.shape?, hg2]
  have hfz := fr_of hg2
  clear hb2
  go_wp2_with fail
  (try simp only [Exit.inBlock, Exit.then])
  refine bodyPost_ret (results_cell_row rfl _ _ w.heap.size 74 #[.bool false, .string ⟨(Lib.itoa n).toArray⟩, .slice none 0 0] (0, 0) _ rfl (set3 hg2) Tryz.underlying74 rfl (by kernel_rfl)) rfl ⟨rfl, ?_⟩
  exact ((hbb.out.setCell (Nat.le_refl _) _).setCell (Nat.le_refl _) _).setCell (Nat.le_refl _) _
end Go.Proofs.YtbiioaggilaebaaGreatDoor.Tm
namespace Go.Proofs.YtbiioaggilaebaaGreatDoor.Pa
open Go Go.RowKit Go.Proofs.YtbiioaggilaebaaGreatDoorW.PrintWords Go.Proofs.YtbiioaggilaebaaGreatDoor.B Go.Proofs.YtbiioaggilaebaaGreatDoor.Tm Go.Proofs.YtbiioaggilaebaaGreatDoor.Wi
theorem lhave_take (l : List ByteArray) (k : Nat) (h : k < l.length) : lhave (l.take (k + 1)) = lhave (l.take k) ++ [txt (l.getD k ByteArray.empty).data.toList] := by
  unfold lhave
  rw [List.take_add_one, List.getElem?_eq_getElem h, List.map_append, List.getD_eq_getElem?_getD, List.getElem?_eq_getElem h]
  rfl
theorem cell_alloc {w : World} {q : Addr} {v : Value} (h : w.cell? q = some v) (o : Obj) : (w.alloc o).cell? q = some v := by
  rw [World.cell?_of_block (heap_alloc_lt w o _ (World.block_lt_of_cell? w q h))]; exact h
theorem keepc {w w' : World} {p : Addr} {v : Value} (h : Below w.heap.size w w') (hc : w.cell? p = some v) : w'.cell? p = some v := (h.cell (World.block_lt_of_cell? w p hc)).trans hc
theorem Bag.lower {base base' : Nat} {w : World} {v : Value} {L : List F} (h : Bag base w v L) (hb : base' ≤ base) : Bag base' w v L := by
  obtain ⟨cs, h1, h2⟩ := h
  exact ⟨cs, own_weaken h1 hb, FC.move (fun b ⟨e1, e2, e3⟩ => ⟨⟨Nat.le_trans hb e1, e2, e3⟩, rfl⟩) h2⟩
def LForm (base : Nat) (w : World) (v : Value) (l : List F) : Prop := ∃ u, v = .agg #[.bool true, .string ⟨#[]⟩, u] ∧ Bag base w u l
set_option maxRecDepth 100000 in
set_option maxHeartbeats 8000000 in
theorem texts_c (A : Option Addr) (c : Nat) (l : List ByteArray) (w : World) (hT : TxAt w A c l) (hn : l.length ≤ 100000000) :
    Calls Tryz.prog 44 #[.slice A l.length c] w fun ev w' => ∃ v, ev = .returned v ∧ LForm w.heap.size w' v (lhave l) ∧ Below w.heap.size w w' := by
  obtain ⟨w1, hw1⟩ : ∃ w1, w1 = w.alloc (.cells #[.bool false, .string ⟨#[]⟩, .slice none 0 0] 74) := ⟨_, rfl⟩
  have hr1 := Lib.hid (show w1.heap[w.heap.size]? = some (.cells #[.bool false, .string ⟨#[]⟩, .slice none 0 0] 74 (0, 0)) by rw [hw1]; exact heap_alloc_at _ _)
  have hb1 := Lib.hid (show Below w.heap.size w w1 by rw [hw1]; exact Wi.below_alloc _ _)
  have hTH := Lib.hid hT
  obtain ⟨n, hN⟩ : ∃ n, n = l.length := ⟨_, rfl⟩
  have hncH := Lib.hid hn
  rw [← hN] at hn ⊢
  replace hN := Lib.hid hN
  have CL := Lib.hid (list_c none 0 0 w1)
  clear hT
  go_enter Tryz.func44, Tryz.ntmps44
  go_upto_region 1 with fail
  rw [← hw1]
  replace hw1 := Lib.hid hw1
  go_wp2_with fail
  refine (CL.out).mono ?_
  rintro ev w2 ⟨rfl, hb2⟩
  unfold vlist
  have hb2H := Lib.hid (hb1.out.trans (hb2.mono hb1.out.size))
  have hr2 := Lib.hid ((hb2.block _ (heap_lt hr1.out)).trans hr1.out)
  obtain ⟨f, hf⟩ : ∃ f, f = w2.heap.size := ⟨_, rfl⟩
  obtain ⟨w3, hw3⟩ : ∃ w3, w3 = w2.alloc (.cells #[.bool true, .string ⟨#[]⟩, .slice none 0 0] 74) := ⟨_, rfl⟩
  have hf3 := Lib.hid (show w3.heap[f]? = some (.cells #[.bool true, .string ⟨#[]⟩, .slice none 0 0] 74 (0, 0)) by rw [hw3, hf]; exact heap_alloc_at _ _)
  have hs3 := Lib.hid (show w3.heap.size = f + 1 by rw [hw3, hf]; simp)
  have hr3 := Lib.hid (show w3.heap[w.heap.size]? = some (.cells #[.bool false, .string ⟨#[]⟩, .slice none 0 0] 74 (0, 0)) by rw [hw3]; exact (heap_alloc_lt _ _ _ (heap_lt hr2.out)).trans hr2.out)
  have hb3 := Lib.hid (show Below w.heap.size w w3 by rw [hw3]; exact hb2H.out.alloc hb2H.out.size _)
  have hrf := Lib.hid (show w.heap.size < f by rw [hf]; exact heap_lt hr2.out)
  have hwr := Lib.hid (Nat.le_refl w.heap.size)
  clear hb2
  go_upto_region 2 with fail
  rw [← hw3, ← hf]
  replace hw3 := Lib.hid hw3
  replace hf := Lib.hid hf
  go_upto_region 3 with fail
  go_loopg [9] n (fun g' i W => ∃ (k : Nat) (v : Value), g' = n - k ∧ k ≤ n ∧ i = .int .i64 k ∧ W.heap[f]? = some (.cells #[.bool true, .string ⟨#[]⟩, v] 74 (0, 0)) ∧ Bag w3.heap.size W v (lhave (l.take k)) ∧ Tch (fun b => b = f) w3 W)
  case atStart => exact ⟨0, .slice none 0 0, rfl, by omega, rfl, hf3.out, Bag.nil _ _, Tch.refl _ _⟩
  case round =>
    obtain ⟨k, v, hg', hk, rfl, hfb, hbag, hTc⟩ := hrel
    subst hg'
    have hfbH := Lib.hid hfb
    have hbag2 := Lib.hid hbag
    have hT2 := Lib.hid hTc
    have hbr := Lib.hid (show Below w.heap.size w wr from hb3.out.trans (hTc.below (B := w.heap.size) hb3.out.size (fun k hk _ => by subst hk; have := hrf.out; have := hwr.out; omega)))
    by_cases hkn : k < n
    · have hki : (k : Int) < (n : Int) := by omega
      have hkl : k < l.length := by rw [← hN.out]; exact hkn
      obtain ⟨b, o, rfl, hcell0⟩ := str_cell hTH.out.1 k hkl
      have hcell := keepc hbr.out hcell0
      have hbw := Lib.hid (show b < w.heap.size from World.block_lt_of_cell? w _ hcell0)
      clear hcell0
      have hnext := Lib.hid (lhave_take l k hkl)
      obtain ⟨x, hx⟩ : ∃ x, x = l.getD k ByteArray.empty := ⟨_, rfl⟩
      rw [← hx] at hcell hnext
      replace hx := Lib.hid hx
      have hq2 : wr.cell? ⟨f, 2, none⟩ = some v := by rw [cell_of hfb]; rfl
      obtain ⟨S, hS⟩ : ∃ S : World → Prop, S = fun W => W.cell? ⟨f, 2, none⟩ = some v := ⟨_, rfl⟩
      have hSi : ∀ W, S W ↔ (W.cell? ⟨f, 2, none⟩ = some v) := fun W => by rw [hS]
      have hS0 : S wr.drew := (hSi _).2 hq2
      have s1 : ∀ X : InS S, X.val.cell? ⟨f, 2, none⟩ = some v := fun X => (hSi X.val).1 X.mem
      have hne : Nonempty (InS S) := ⟨⟨wr.drew, hS0⟩⟩
      have hS0H := Lib.hid hS0
      have hSiH := Lib.hid hSi
      clear hS hSi hq2 hfb hbag hTc hS0
      go_upto_region 5 with fail
      clear hcell
      refine wp_region_mix S [0, 1, 2] [.mem [0, 1, 2], .keep 3, .keep 4, .keep 5, .pure [6], .last 7] (by kernel_rfl) (by kernel_rfl) hS0H.out ?_
      simp only [pick, List.getD_cons_zero, List.getD_cons_succ, wpMix]
      repeat (go_big_quiet_step (fail))
      refine wpQuiet_nil ?_
      have hfs := heap_lt hfbH.out
      have hnb := Lib.hid (show ∀ b, b < w3.heap.size → some b ≠ v.ownBlock from fun b hb e => by have := (hbag2.out.lt _ e.symm).1; omega)
      have hf3s := heap_lt hf3.out
      have d1 := (hSiH.out _).1 hS0H.out
      go_wp2_with (go_at_call 46; (with_reducible refine (text_c _ _).mono ?_); rintro ev w9 ⟨rfl, hb9⟩)
      have r1 := keepc hb9 d1
      have hbr9 := Lib.hid (show Below wr.heap.size wr w9 from ((Below.refl wr.heap.size wr).drew).trans hb9)
      have hbag9 := Lib.hid (hbag2.out.keep (w' := w9) (fun b h1 h2 => hbr9.out.block b h2) hbr9.out.size)
      clear hb9
      unfold vtext
      refine ⟨(hSiH.out _).2 r1, ?_⟩
      go_wp2_with fail
      refine ⟨(hSiH.out _).2 (cell_alloc r1 _), ?_⟩
      have hlen := Lib.hid (show (lhave (l.take k)).length = k from by unfold lhave; rw [List.length_map, List.length_take]; omega)
      have hmL' := hncH.out
      go_wp2_with (at_builtin; refine bag_app (by rfl) _ _ _ (by rfl) Tryz.underlying72 (by rfl) k 1 1 (by rfl) (by rfl) hbag9.out (FC.texts _) hlen.out (by rfl) (by omega) (by omega) (Nat.le_trans hT2.out.size hbr9.out.size) ?_; intro g7 cap7 w10 hbag10 hgrew10)
      have hbw' := hbw.out
      have hB3s := hb3.out.size
      have u1 := hgrew10.cell r1 (hnb.out f hf3s)
      have hf10 := hgrew10.heap ((hbr9.out.block _ (heap_lt hfbH.out)).trans hfbH.out) (hnb.out f hf3s)
      refine ⟨(hSiH.out _).2 u1, ?_⟩
      repeat (go_big_quiet_step (fail))
      refine wpQuiet_nil ?_
      have z10 : w10.frozen? ⟨f, 2, none⟩ = false := fr_of hf10 2
      have hf10H := Lib.hid hf10
      have hbag10H := Lib.hid hbag10
      have hgrew10H := Lib.hid hgrew10
      clear hf10 hbag10 hgrew10 hf3s hfs hbw' hB3s
      go_wp2_with fail
      simp only [stepPost]
      go_wp2_with fail
      go_roundg (n - (k + 1))
      case measure => omega
      case rel =>
        refine ⟨k + 1, .slice (some ⟨g7, 0, none⟩) (k + 1) cap7, rfl, by omega, by go_num, heap_set _ _ _ _ _ _ _ hf10H.out, ?_, ?_⟩
        · rw [hnext.out]
          exact hbag10H.out.keep (fun b h1 h2 => heap_set_ne _ _ _ _ (by show b ≠ f; have := hs3.out; omega)) (by rw [size_set]; exact Nat.le_refl _)
        · exact (hgrew10H.out.tch (hT2.out.trans (Tch.of_new hbr9.out)) (fun b hb => (hbag2.out.lt b hb).1)).setCell ⟨f, 2, none⟩ (fun _ => rfl) _
    · have hkn' : k = n := by omega
      subst hkn'
      have hki : ¬ (k : Int) < (k : Int) := by omega
      have ht : l.take k = l := List.take_of_length_le (by rw [← hN.out]; exact Nat.le_refl _)
      rw [ht] at hbag2
      clear ht hbag
      obtain ⟨Ah, ch, hvs, _⟩ := hbag2.out.form
      obtain ⟨ln, hln⟩ : ∃ ln, ln = (lhave l).length := ⟨_, rfl⟩
      rw [← hln] at hvs
      replace hln := Lib.hid hln
      subst hvs
      have hrr := (hTc.heap hr3.out (show ¬ w.heap.size = f by have := hrf.out; omega))
      have hrrH := Lib.hid hrr
      obtain ⟨q0, q1, q2, _, _⟩ := blk3' hfb
      obtain ⟨e0, e1, e2, esh, efz⟩ := blk3' hrr
      clear hfb hTc hrr
      go_wp2_with fail
      (try simp only [Exit.inBlock, Exit.then])
      refine bodyPost_ret (results_cell_row rfl _ _ w.heap.size 74 #[.bool true, .string ⟨#[]⟩, .slice Ah ln ch] (0, 0) _ rfl (set3 hrrH.out) Tryz.underlying74 rfl (by kernel_rfl)) rfl ?_
      refine ⟨_, rfl, ⟨_, rfl, ?_⟩, ?_⟩
      · refine Bag.lower (hbag2.out.keep (fun b h1 h2 => ?_) ?_) hb3.out.size
        · rw [heap_set_ne _ _ _ _ (by show b ≠ w.heap.size; have := heap_lt hr3.out; omega), heap_set_ne _ _ _ _ (by show b ≠ w.heap.size; have := heap_lt hr3.out; omega), heap_set_ne _ _ _ _ (by show b ≠ w.heap.size; have := heap_lt hr3.out; omega)]
        · rw [size_set, size_set, size_set]; exact Nat.le_refl _
      · exact ((hbr.out.setCell hwr.out _).setCell hwr.out _).setCell hwr.out _
end Go.Proofs.YtbiioaggilaebaaGreatDoor.Pa
set_option linter.unusedVariables false
set_option linter.unusedSimpArgs false
namespace Go.Proofs.YtbiioaggilaebaaGreatDoor.Lin
open Go Go.RowKit Go.Proofs.YtbiioaggilaebaaGreatDoor.B Go.Proofs.YtbiioaggilaebaaGreatDoorW.PrintWords
theorem omarker_short (s : ByteArray) (h : s.size < 7) : Pop.tambourref01_Marker.f 9 s = some (mrk s.data.toList) := by
  unfold Pop.tambourref01_Marker.f
  rw [if_pos (by omega)]
  simp only [Pop.tambourref01_Marker.j0, if_true]
  have hl : s.data.toList.length < 7 := by rw [size_list]; exact h
  generalize s.data.toList = l at hl
  congr 1
  symm
  unfold mrk
  have hp : ∀ c : UInt8, (List.replicate 7 c).isPrefixOf l = false := fun c => by
    rw [Bool.eq_false_iff]
    intro hc
    have := (List.isPrefixOf_iff_prefix.1 hc).length_le
    simp at this
    omega
  simp only [hp]; rfl
theorem omarker_long (s : ByteArray) (h : 7 ≤ s.size) : Pop.tambourref01_Marker.f 9 s = some (mrk s.data.toList) := by
  obtain ⟨a, b, c, d, e, f, g, r, hl⟩ := long_form (l := s.data.toList) (by rw [size_list]; exact h)
  have b0 : bt s 0 = a.toNat := by have := bt_at s 0 (by omega); rw [hl] at this; exact this
  have b1 : bt s 1 = b.toNat := by have := bt_at s 1 (by omega); rw [hl] at this; exact this
  have b2 : bt s 2 = c.toNat := by have := bt_at s 2 (by omega); rw [hl] at this; exact this
  have b3 : bt s 3 = d.toNat := by have := bt_at s 3 (by omega); rw [hl] at this; exact this
  have b4 : bt s 4 = e.toNat := by have := bt_at s 4 (by omega); rw [hl] at this; exact this
  have b5 : bt s 5 = f.toNat := by have := bt_at s 5 (by omega); rw [hl] at this; exact this
  have b6 : bt s 6 = g.toNat := by have := bt_at s 6 (by omega); rw [hl] at this; exact this
  have L : ∀ k, Pop.tambourref01_Marker.l0 (k + 7) s 1 = some (decide (b = a ∧ c = a ∧ d = a ∧ e = a ∧ f = a ∧ g = a)) := by
    intro k
    have hz : (0 : Int) < s.size := by omega
    have q1 : (1 : Int) < s.size := by omega
    have q2 : (2 : Int) < s.size := by omega
    have q3 : (3 : Int) < s.size := by omega
    have q4 : (4 : Int) < s.size := by omega
    have q5 : (5 : Int) < s.size := by omega
    have q6 : (6 : Int) < s.size := by omega
    simp only [Pop.tambourref01_Marker.l0]
    have w1 : wrap64 (1 + 1) = 2 := by rw [wrap_at (by omega) (by omega)]; rfl
    have w2 : wrap64 (2 + 1) = 3 := by rw [wrap_at (by omega) (by omega)]; rfl
    have w3 : wrap64 (3 + 1) = 4 := by rw [wrap_at (by omega) (by omega)]; rfl
    have w4 : wrap64 (4 + 1) = 5 := by rw [wrap_at (by omega) (by omega)]; rfl
    have w5 : wrap64 (5 + 1) = 6 := by rw [wrap_at (by omega) (by omega)]; rfl
    have w6 : wrap64 (6 + 1) = 7 := by rw [wrap_at (by omega) (by omega)]; rfl
    simp only [w1, w2, w3, w4, w5, w6, b0, b1, b2, b3, b4, b5, b6, byte_eq, hz, q1, q2, q3, q4, q5, q6, if_true,
      show ((1 : Int) < 7) = True from by simp, show ((2 : Int) < 7) = True from by simp, show ((3 : Int) < 7) = True from by simp, show ((4 : Int) < 7) = True from by simp, show ((5 : Int) < 7) = True from by simp, show ((6 : Int) < 7) = True from by simp, show ((7 : Int) < 7) = False from by simp,
      show ((0 : Int) ≤ 1) = True from by simp, show ((0 : Int) ≤ 2) = True from by simp, show ((0 : Int) ≤ 3) = True from by simp, show ((0 : Int) ≤ 4) = True from by simp, show ((0 : Int) ≤ 5) = True from by simp, show ((0 : Int) ≤ 6) = True from by simp, if_false]
    by_cases e1 : b = a <;> by_cases e2 : c = a <;> by_cases e3 : d = a <;> by_cases e4 : e = a <;> by_cases e5 : f = a <;> by_cases e6 : g = a <;> simp [e1, e2, e3, e4, e5, e6]
  unfold Pop.tambourref01_Marker.f
  rw [if_neg (by omega), if_pos (by omega), b0, hl]
  simp only [Pop.tambourref01_Marker.j0, Bool.false_eq_true, if_false, L]
  have s1 : ((a.toNat : Int) = 62) ↔ a = 62 := byte_is a 62 (by omega)
  have s2 : ((a.toNat : Int) = 61) ↔ a = 61 := byte_is a 61 (by omega)
  have s3 : ((a.toNat : Int) = 60) ↔ a = 60 := byte_is a 60 (by omega)
  have s3' : ((a.toNat : Int) != 60) = !decide (a = 60) := by
    by_cases h : a = 60
    · rw [decide_eq_true h, bne_eq_false_iff_eq.2 (s3.2 h)]; rfl
    · rw [decide_eq_false h, bne_iff_ne.2 (fun e => h (s3.1 e))]; rfl
  simp only [s1, s2, s3']
  have pf : ∀ z : UInt8, (List.replicate 7 z).isPrefixOf (a :: b :: c :: d :: e :: f :: g :: r) = decide (a = z ∧ b = z ∧ c = z ∧ d = z ∧ e = z ∧ f = z ∧ g = z) := by
    intro z
    simp only [List.replicate, List.isPrefixOf]
    rw [Bool.eq_iff_iff]
    simp only [Bool.and_eq_true, beq_iff_eq, decide_eq_true_eq, and_true]
    constructor
    · rintro ⟨h1, h2, h3, h4, h5, h6, h7⟩; exact ⟨h1.symm, h2.symm, h3.symm, h4.symm, h5.symm, h6.symm, h7.symm⟩
    · rintro ⟨h1, h2, h3, h4, h5, h6, h7⟩; exact ⟨h1.symm, h2.symm, h3.symm, h4.symm, h5.symm, h6.symm, h7.symm⟩
  unfold mrk
  simp only [pf]
  by_cases h1 : a = 62
  · subst h1; simp
  · by_cases h2 : a = 61
    · subst h2; simp
    · by_cases h3 : a = 60
      · subst h3; simp
      · simp [h1, h2, h3]
theorem omarker_f (s : ByteArray) : Pop.tambourref01_Marker.f 9 s = some (mrk s.data.toList) := by
  by_cases h : s.size < 7
  · exact omarker_short s h
  · exact omarker_long s (by omega)
end Go.Proofs.YtbiioaggilaebaaGreatDoor.Lin
namespace Go.Proofs.YtbiioaggilaebaaGreatDoor.Pa
open Go Go.RowKit Go.Proofs.YtbiioaggilaebaaGreatDoorW.PrintWords Go.Proofs.YtbiioaggilaebaaGreatDoor.B Go.Proofs.YtbiioaggilaebaaGreatDoor.Tm Go.Proofs.YtbiioaggilaebaaGreatDoor.Wi
open Go.Proofs.YtbiioaggilaebaaGreatDoor.Lin (mrk omarker_f wrap_at size_list byte_is)
theorem omark_k (s : ByteArray) (k : Nat) (h : 9 ≤ k) : Pop.tambourref01_Marker.f k s = some (mrk s.data.toList) := by
  have := more_rounds (g := fun k => Pop.tambourref01_Marker.f k s) (fun k => Pop.tambourref01_Marker.mono s k) 9 (k - 9) _ (omarker_f s)
  rwa [show 9 + (k - 9) = k from by omega] at this
theorem rref_f (own deps t n : Int) : Pop.tambourref05_ref.f t n own deps = some (refOk own deps t n) := cref_f own deps t n
theorem line_l0 (s : ByteArray) (hs : s.size ≤ 140737488351232) : ∀ (n k i : Nat), s.size - i ≤ n → n + 10 ≤ k → i ≤ s.size → Pop.tambourref05_line.l0 k s (i : Int) = some (!(s.data.toList.drop i).contains 10 && (decide (s.size ≤ 500) && !mrk s.data.toList)) := by
  intro n
  induction n with
  | zero =>
    intro k i h1 h2 h3
    obtain ⟨k, rfl⟩ : ∃ j, k = j + 1 := ⟨k - 1, by omega⟩
    obtain rfl : i = s.size := by omega
    rw [Pop.tambourref05_line.l0, if_neg (by omega), List.drop_of_length_le (by rw [size_list]; exact Nat.le_refl _), omark_k s k (by omega)]
    by_cases h : (s.size : Int) ≤ 500
    · rw [if_pos h, decide_eq_true (by omega)]; simp
    · rw [if_neg h, decide_eq_false (by omega)]; simp
  | succ n ih =>
    intro k i h1 h2 h3
    by_cases hi : i < s.size
    · obtain ⟨k, rfl⟩ : ∃ j, k = j + 1 := ⟨k - 1, by omega⟩
      rw [Pop.tambourref05_line.l0, if_pos (by omega), if_pos (by omega), Lin.bt_at s i hi, wrap_at (by omega) (by omega)]
      have hd : s.data.toList.drop i = s.data.toList.getD i 0 :: s.data.toList.drop (i + 1) := by
        rw [List.getD_eq_getElem?_getD, List.getElem?_eq_getElem (by rw [size_list]; exact hi)]
        exact List.drop_eq_getElem_cons (by rw [size_list]; exact hi)
      rw [hd]
      by_cases hc : ((s.data.toList.getD i 0).toNat : Int) = 10
      · rw [if_pos hc, (byte_is _ 10 (by omega)).1 hc]
        simp
      · have hne : s.data.toList.getD i 0 ≠ 10 := fun e => hc ((byte_is _ 10 (by omega)).2 e)
        rw [if_neg hc]
        have := ih k (i + 1) (by omega) (by omega) (by omega)
        rw [show (((i + 1 : Nat) : Int)) = (i : Int) + 1 from by omega] at this
        rw [this, List.contains_cons]
        have hb : ((10 : UInt8) == s.data.toList.getD i 0) = false := by rw [beq_eq_false_iff_ne]; exact fun e => hne e.symm
        rw [hb, Bool.false_or]
    · exact ih k i (by omega) (by omega) h3
theorem line_f (s : ByteArray) (hs : s.size ≤ 140737488351232) (k : Nat) (hk : s.size + 10 ≤ k) : Pop.tambourref05_line.f k s = some (lineOk s) := by
  have := line_l0 s hs s.size k 0 (by omega) hk (by omega)
  unfold Pop.tambourref05_line.f
  rw [show ((0 : Nat) : Int) = 0 from rfl, List.drop_zero] at this
  rw [this]
  unfold lineOk
  generalize s.data.toList.contains 10 = a
  generalize mrk s.data.toList = b
  cases a <;> cases b <;> cases decide (s.size ≤ 500) <;> rfl
def two3 (a m b n : Int) : Bool := (!(a == b) || (!(m == n))) && ((!(a == -1) || (!(m == 1))) && (!(b == -1) || (!(n == 0))))
theorem tail_two3 (own deps a m b n : Int) (nl : Nat) : tailOk own deps a m b n nl = (refOk own deps b n && two3 a m b n && decide (nl = 0)) := by
  unfold tailOk two3
  generalize (!(a == b) || (!(m == n))) = x
  generalize (!(a == -1) || (!(m == 1))) = y
  generalize (!(b == -1) || (!(n == 0))) = z
  generalize refOk own deps b n = r
  cases r <;> cases x <;> cases y <;> cases z <;> simp
theorem op_split (own deps k a m b n : Int) (ls : List ByteArray) : opOk own deps ⟨k, a, m, b, n, ls⟩ = (if k = 1 then (refOk own deps a m && (refOk own deps b n && two3 a m b n)) && (ls.all lineOk && decide (0 < ls.length)) else if k = 2 ∨ k = 3 then (refOk own deps a m && (refOk own deps b n && two3 a m b n)) && decide (ls.length = 0) else if k = 4 ∨ k = 5 then refOk own deps a m && decide (0 ≤ a ∧ b = 0 ∧ n = 0 ∧ ls.length = 0) else false) := by
  unfold opOk
  have h0 := tail_two own deps a m b n k ls 0
  rw [tail_two3] at h0
  simp only [decide_true, Bool.and_true] at h0
  show (if k = 1 then _ else if k = 2 ∨ k = 3 then _ else if k = 4 ∨ k = 5 then refOk own deps a m && _ else false) = _
  rw [h0]
attribute [local go_sem high] ref_eqA
theorem rref_c (own deps t n : Int) (w : World) : Calls Tryz.prog 125 #[.agg #[.int .i64 t, .int .i64 n], .int .i64 own, .int .i64 deps] w fun e w' => e = .returned (.bool (refOk own deps t n)) ∧ Below w.heap.size w w' :=
  Pop.tambourref05_ref.calls t n own deps _ w (rref_f own deps t n)
theorem rbottom_c (w : World) : Calls Tryz.prog 126 #[] w fun e w' => e = .returned (.agg #[.int .i64 (-1), .int .i64 1]) ∧ Below w.heap.size w w' := Pop.tambourref05_Bottom.calls (-1) 1 w rfl
theorem rtop_c (w : World) : Calls Tryz.prog 127 #[] w fun e w' => e = .returned (.agg #[.int .i64 (-1), .int .i64 0]) ∧ Below w.heap.size w w' := Pop.tambourref05_Top.calls (-1) 0 w rfl
theorem rline_c (s : ByteArray) (hs : s.size ≤ 140737488351232) (w : World) : Calls Tryz.prog 128 #[.string s] w fun e w' => e = .returned (.bool (lineOk s)) ∧ Below w.heap.size w w' := by
  refine (Pop.tambourref05_line.calls (s.size + 10) s _ w (line_f s hs _ (Nat.le_refl _))).mono ?_
  rintro e w' ⟨rfl, hd⟩
  obtain ⟨n, rfl⟩ := hd.out
  exact ⟨rfl, pw_below_drewN (Below.refl _ _) n⟩
def TwoAt (two : Bool) (w1 : World) (v : Value) (wc : World) : Prop := v = .bool two ∧ Below w1.heap.size w1 wc
set_option maxRecDepth 100000 in
set_option maxHeartbeats 16000000 in
theorem rop_c (own deps : Int) (k a m b n : Int) (ls : List ByteArray) (L : Option Addr) (cl : Nat) (w : World) (hT : TxAt w L cl ls) :
    Calls Tryz.prog 82 #[.agg #[.int .i64 k, .int .i64 a, .int .i64 m, .int .i64 b, .int .i64 n, .slice L ls.length cl], .int .i64 own, .int .i64 deps] w fun e w' => e = .returned (.bool (opOk own deps ⟨k, a, m, b, n, ls⟩)) ∧ Below w.heap.size w w' := by
  rw [op_split]
  obtain ⟨h, hh⟩ : ∃ h, h = w.heap.size := ⟨_, rfl⟩
  obtain ⟨w1, hw1⟩ : ∃ w1, w1 = w.alloc (.cells #[.int .i64 k, .int .i64 a, .int .i64 m, .int .i64 b, .int .i64 n, .slice L ls.length cl] 38) := ⟨_, rfl⟩
  have hb1 := Lib.hid (show Below w.heap.size w w1 by rw [hw1]; exact Wi.below_alloc _ _)
  have hO1 : w1.heap[h]? = some (.cells #[.int .i64 k, .int .i64 a, .int .i64 m, .int .i64 b, .int .i64 n, .slice L ls.length cl] 38 (0, 0)) := by rw [hw1, hh]; exact heap_alloc_at _ _
  have hT1 := Lib.hid (hT.below hb1.out)
  have hsz := Lib.hid hT.2.2.2
  have hlen := Lib.hid hT.2.2.1
  obtain ⟨nl, hnl⟩ : ∃ nl, nl = ls.length := ⟨_, rfl⟩
  obtain ⟨r1, hr1⟩ : ∃ r1, r1 = refOk own deps a m := ⟨_, rfl⟩
  obtain ⟨r2, hr2⟩ : ∃ r2, r2 = refOk own deps b n := ⟨_, rfl⟩
  obtain ⟨x, hx⟩ : ∃ x, x = (!(a == b) || (!(m == n))) := ⟨_, rfl⟩
  obtain ⟨y, hy⟩ : ∃ y, y = (!(a == -1) || (!(m == 1))) := ⟨_, rfl⟩
  obtain ⟨z, hz⟩ : ∃ z, z = (!(b == -1) || (!(n == 0))) := ⟨_, rfl⟩
  obtain ⟨two, htwo⟩ : ∃ two, two = (r1 && (r2 && (x && (y && z)))) := ⟨_, rfl⟩
  have hres := Lib.hid (show (if k = 1 then (refOk own deps a m && (refOk own deps b n && two3 a m b n)) && (ls.all lineOk && decide (0 < ls.length)) else if k = 2 ∨ k = 3 then (refOk own deps a m && (refOk own deps b n && two3 a m b n)) && decide (ls.length = 0) else if k = 4 ∨ k = 5 then refOk own deps a m && decide (0 ≤ a ∧ b = 0 ∧ n = 0 ∧ ls.length = 0) else false) = (if k = 1 then two && (ls.all lineOk && decide (0 < nl)) else if k = 2 ∨ k = 3 then two && decide (nl = 0) else if k = 4 ∨ k = 5 then r1 && decide (0 ≤ a ∧ b = 0 ∧ n = 0 ∧ nl = 0) else false) by rw [htwo, hr1, hr2, hx, hy, hz, hnl]; rfl)
  obtain ⟨R, hR⟩ : ∃ R, R = (if k = 1 then (refOk own deps a m && (refOk own deps b n && two3 a m b n)) && (ls.all lineOk && decide (0 < ls.length)) else if k = 2 ∨ k = 3 then (refOk own deps a m && (refOk own deps b n && two3 a m b n)) && decide (ls.length = 0) else if k = 4 ∨ k = 5 then refOk own deps a m && decide (0 ≤ a ∧ b = 0 ∧ n = 0 ∧ ls.length = 0) else false) := ⟨_, rfl⟩
  rw [← hR]
  replace hR := Lib.hid (hR.trans hres.out)
  have CA := Lib.hid (fun W => rref_c own deps a m W)
  have CB := Lib.hid (fun W => rref_c own deps b n W)
  rw [← hr1] at CA
  rw [← hr2] at CB
  have CE := Lib.hid (fun W => rbottom_c W)
  have CF := Lib.hid (fun W => rtop_c W)
  rw [← hnl] at hw1 hO1 ⊢
  replace hnl := Lib.hid hnl
  obtain ⟨TW, hTW⟩ : ∃ TW, TW = TwoAt two w1 := ⟨_, rfl⟩
  have hTWH := Lib.hid hTW
  have htwoH := Lib.hid htwo
  have hOH := Lib.hid hO1
  clear hres hr1 hr2 hT hTW htwo
  obtain ⟨o0, o1, o2, o3, o4, o5, _, _⟩ := six_facts hO1
  go_enter Tryz.func82, Tryz.ntmps82
  go_upto_region 1 with fail
  rw [← hw1, ← hh]
  replace hw1 := Lib.hid hw1
  replace hh := Lib.hid hh
  clear hO1
  go_cut [7] (fun v wc => TW v wc)
  case first =>
    have q1 := Lat.cell o1
    have q2 := Lat.cell o2
    have q3 := Lat.cell o3
    have q4 := Lat.cell o4
    clear o0 o1 o2 o3 o4 o5
    cases r1 with
    | false =>
      refine wp_region_lat (by kernel_rfl) (by kernel_rfl) ?_
      repeat (go_big_quiet_step (fail))
      go_big_quiet_step ((go_at_call 125; exact lat_of (CA.out _)))
      repeat (go_big_quiet_step (fail))
      refine wpQuiet_nil ?_
      intro _ hw'
      obtain ⟨xl, hw''⟩ := hw'
      subst hw''
      go_wp2_with fail
      go_meet
      case rel => rw [hTWH.out]; exact ⟨by rw [htwoH.out]; rfl, xl.below⟩
    | true =>
      cases r2 with
      | false =>
        refine wp_region_lat (by kernel_rfl) (by kernel_rfl) ?_
        repeat (go_big_quiet_step (fail))
        go_big_quiet_step ((go_at_call 125; exact lat_of (CA.out _)))
        repeat (go_big_quiet_step (fail))
        go_big_quiet_step ((go_at_call 125; exact lat_of (CB.out _)))
        repeat (go_big_quiet_step (fail))
        refine wpQuiet_nil ?_
        intro _ hw'
        obtain ⟨xl, hw''⟩ := hw'
        subst hw''
        go_wp2_with fail
        go_meet
        case rel => rw [hTWH.out]; exact ⟨by rw [htwoH.out]; rfl, xl.below⟩
      | true =>
        cases x with
        | false =>
          replace hx := hx.symm
          refine wp_region_lat (by kernel_rfl) (by kernel_rfl) ?_
          repeat (go_big_quiet_step (fail))
          go_big_quiet_step ((go_at_call 125; exact lat_of (CA.out _)))
          repeat (go_big_quiet_step (fail))
          go_big_quiet_step ((go_at_call 125; exact lat_of (CB.out _)))
          repeat (go_big_quiet_step (fail))
          refine wpQuiet_nil ?_
          intro _ hw'
          obtain ⟨xl, hw''⟩ := hw'
          subst hw''
          go_wp2_with fail
          go_meet
          case rel => rw [hTWH.out]; exact ⟨by rw [htwoH.out]; rfl, xl.below⟩
        | true =>
          replace hx := hx.symm
          cases y with
          | false =>
            replace hy := hy.symm
            refine wp_region_lat (by kernel_rfl) (by kernel_rfl) ?_
            repeat (go_big_quiet_step (fail))
            go_big_quiet_step ((go_at_call 125; exact lat_of (CA.out _)))
            repeat (go_big_quiet_step (fail))
            go_big_quiet_step ((go_at_call 125; exact lat_of (CB.out _)))
            repeat (go_big_quiet_step (fail))
            go_big_quiet_step ((go_at_call 126; exact lat_of (CE.out _)))
            repeat (go_big_quiet_step (fail))
            refine wpQuiet_nil ?_
            intro _ hw'
            obtain ⟨xl, hw''⟩ := hw'
            subst hw''
            go_wp2_with fail
            go_meet
            case rel => rw [hTWH.out]; exact ⟨by rw [htwoH.out]; rfl, xl.below⟩
          | true =>
            replace hy := hy.symm
            cases z
            all_goals
              replace hz := hz.symm
              refine wp_region_lat (by kernel_rfl) (by kernel_rfl) ?_
              repeat (go_big_quiet_step (fail))
              go_big_quiet_step ((go_at_call 125; exact lat_of (CA.out _)))
              repeat (go_big_quiet_step (fail))
              go_big_quiet_step ((go_at_call 125; exact lat_of (CB.out _)))
              repeat (go_big_quiet_step (fail))
              go_big_quiet_step ((go_at_call 126; exact lat_of (CE.out _)))
              repeat (go_big_quiet_step (fail))
              go_big_quiet_step ((go_at_call 127; exact lat_of (CF.out _)))
              repeat (go_big_quiet_step (fail))
              refine wpQuiet_nil ?_
              intro _ hw'
              obtain ⟨xl, hw''⟩ := hw'
              subst hw''
              go_wp2_with fail
              go_meet
              case rel => rw [hTWH.out]; exact ⟨by rw [htwoH.out]; rfl, xl.below⟩
  case rest =>
    rw [hTWH.out] at hcut
    obtain ⟨rfl, hbc⟩ := hcut
    have hOc := Lib.hid ((hbc.block _ (heap_lt hOH.out)).trans hOH.out)
    have hTc := Lib.hid (hT1.out.below hbc)
    have hbw := Lib.hid (hb1.out.trans (hbc.mono hb1.out.size))
    clear hbc o0 o1 o2 o3 o4 o5 hx hy hz
    have hnl4 : nl ≤ 140737488351232 := by rw [hnl.out]; exact hlen.out
    obtain ⟨o0, o1, o2, o3, o4, o5, _, _⟩ := six_facts hOc.out
    by_cases k1 : k = 1
    · subst k1
      rw [if_pos rfl] at hR
      go_upto_region 5 with fail
      clear o0 o1 o2 o3 o4 o5
      go_loopg [8] nl (fun g' i W => ∃ j : Nat, g' = nl - j ∧ j ≤ nl ∧ i = .int .i64 j ∧ Below wc.heap.size wc W ∧ ∀ t, t < j → lineOk (ls.getD t ByteArray.empty) = true)
      case atStart => exact ⟨0, rfl, by omega, rfl, Below.refl _ _, fun t ht => absurd ht (by omega)⟩
      case round =>
        obtain ⟨j, hg', hj, rfl, hbr, hok⟩ := hrel
        subst hg'
        have hokH := Lib.hid hok
        have hbrH := Lib.hid hbr
        have hOr := Lib.hid ((hbr.block _ (heap_lt hOc.out)).trans hOc.out)
        obtain ⟨o0, o1, o2, o3, o4, o5, _, _⟩ := six_facts hOr.out
        by_cases hjn : j < nl
        · have hji : (j : Int) < (nl : Int) := by omega
          have hcc := str_cell (hTc.out.below hbr).1 j (by rw [← hnl.out]; exact hjn)
          obtain ⟨bq, oq, rfl, hcell⟩ := hcc
          obtain ⟨s, hs⟩ : ∃ s, s = ls.getD j ByteArray.empty := ⟨_, rfl⟩
          rw [← hs] at hcell
          have hmem := Lib.hid (show s ∈ ls by rw [hs]; exact getD_mem' ls j _ (by rw [← hnl.out]; exact hjn))
          have CO := Lib.hid (rline_c s (hsz.out s hmem.out) wr)
          replace hs := Lib.hid hs
          clear hok hbr
          go_wp2_with fail
          refine (CO.out).mono ?_
          rintro ev w5 ⟨rfl, hb5⟩
          have hb5H := Lib.hid (hbrH.out.trans (hb5.mono hbrH.out.size))
          clear hb5 o0 o1 o2 o3 o4 o5 hcell
          cases hr : lineOk s with
          | false =>
            have hrH := Lib.hid hr
            have hall := Lib.hid (show ls.all lineOk = false by rw [List.all_eq_false]; exact ⟨s, hmem.out, by rw [hr]; simp⟩)
            clear hr
            go_wp2_with fail
            go_ret
            exact ⟨ret_b (by rw [hR.out, hall.out, Bool.false_and, Bool.and_false]), hbw.out.trans (hb5H.out.mono hbw.out.size)⟩
          | true =>
            have hrH := Lib.hid hr
            clear hr
            go_wp2_with fail
            go_roundg (nl - (j + 1))
            case measure => omega
            case rel => exact ⟨j + 1, rfl, by omega, by go_num, hb5H.out, fun t ht => by
              by_cases e : t < j
              · exact hokH.out t e
              · rw [show t = j from by omega, ← hs.out]; exact hrH.out⟩
        · have hji : ¬ (j : Int) < (nl : Int) := by omega
          have hall := Lib.hid (show ls.all lineOk = true by
            refine List.all_eq_true.2 fun x hx => ?_
            obtain ⟨t, ht, rfl⟩ := List.getElem_of_mem hx
            have := hokH.out t (by have := hnl.out; omega)
            rw [List.getD_eq_getElem?_getD, List.getElem?_eq_getElem ht] at this
            exact this)
          clear hok hbr
          cases two with
          | false =>
            go_wp2_with fail
            go_ret
            exact ⟨ret_b (by rw [hR.out]; rfl), hbw.out.trans (hbrH.out.mono hbw.out.size)⟩
          | true =>
            go_wp2_with fail
            go_ret
            exact ⟨ret_b (by rw [hR.out, hall.out, Bool.true_and, Bool.true_and]), hbw.out.trans (hbrH.out.mono hbw.out.size)⟩
    · rw [if_neg k1] at hR
      have d1 : (k == 1) = false := by simpa using k1
      by_cases h23 : k = 2 ∨ k = 3
      · rw [if_pos h23] at hR
        have h23' : (k == 2) = true ∨ (k == 2) = false ∧ (k == 3) = true := by rcases h23 with rfl | rfl <;> simp
        clear k1 h23
        rcases h23' with d2 | ⟨d2, d3⟩
        all_goals
          cases two with
          | false =>
            go_wp2_with fail
            go_ret
            exact ⟨ret_b (by rw [hR.out]; rfl), hbw.out⟩
          | true =>
            go_wp2_with fail
            go_ret
            exact ⟨ret_b (by rw [hR.out, Bool.true_and, Bool.eq_iff_iff]; simp), hbw.out⟩
      · rw [if_neg h23] at hR
        have d2 : (k == 2) = false := by simp; omega
        have d3 : (k == 3) = false := by simp; omega
        by_cases h45 : k = 4 ∨ k = 5
        · rw [if_pos h45] at hR
          have h45' : (k == 4) = true ∨ (k == 4) = false ∧ (k == 5) = true := by rcases h45 with rfl | rfl <;> simp
          clear k1 h23 h45
          rcases h45' with d4 | ⟨d4, d5⟩
          all_goals
            go_wp2_with fail
            refine (CA.out wc).mono ?_
            rintro ev w5 ⟨rfl, hb5⟩
            have hb5H := Lib.hid (hbw.out.trans (hb5.mono hbw.out.size))
            have hO5 := Lib.hid ((hb5.block _ (heap_lt hOc.out)).trans hOc.out)
            clear hb5 o0 o1 o2 o3 o4 o5
            obtain ⟨o0, o1, o2, o3, o4, o5, _, _⟩ := six_facts hO5.out
            cases r1 with
            | false =>
              go_wp2_with fail
              go_ret
              exact ⟨ret_b (by rw [hR.out]; rfl), hb5H.out⟩
            | true =>
              by_cases ha : 0 ≤ a
              · cases hbn : (b == 0 && (n == 0)) with
                | false =>
                  have hbnH := Lib.hid hbn
                  go_wp2_with fail
                  go_ret
                  refine ⟨ret_b ?_, hb5H.out⟩
                  rw [hR.out, Bool.true_and]
                  symm
                  rw [decide_eq_false_iff_not]
                  rintro ⟨_, h1, h2, _⟩
                  have := hbnH.out
                  rw [h1, h2] at this
                  cases this
                | true =>
                  have hbnH := Lib.hid hbn
                  go_wp2_with fail
                  go_ret
                  refine ⟨ret_b ?_, hb5H.out⟩
                  have h1 := hbnH.out
                  rw [Bool.and_eq_true, beq_iff_eq, beq_iff_eq] at h1
                  rw [hR.out, Bool.true_and, Bool.eq_iff_iff]
                  simp [ha, h1.1, h1.2]
              · have ha2 : a < 0 := by omega
                go_wp2_with fail
                go_ret
                refine ⟨ret_b ?_, hb5H.out⟩
                rw [hR.out, Bool.true_and]
                symm
                rw [decide_eq_false_iff_not]
                exact fun h => by have := h.1; omega
        · rw [if_neg h45] at hR
          have d4 : (k == 4) = false := by simp; omega
          have d5 : (k == 5) = false := by simp; omega
          clear k1 h23 h45
          go_wp2_with fail
          go_ret
          exact ⟨ret_b (by rw [hR.out]), hbw.out⟩
end Go.Proofs.YtbiioaggilaebaaGreatDoor.Pa
set_option linter.unusedVariables false
set_option linter.unusedSimpArgs false
namespace Go.Proofs.YtbiioaggilaebaaGreatDoor.Pa
open Go Go.RowKit Go.Proofs.YtbiioaggilaebaaGreatDoorW.PrintWords Go.Proofs.YtbiioaggilaebaaGreatDoor.B Go.Proofs.YtbiioaggilaebaaGreatDoor.Tm Go.Proofs.YtbiioaggilaebaaGreatDoor.Wi
theorem Bag.built {base : Nat} {w : World} {G : List F} {arr : Array Value} (hG : FC (fun b => base ≤ b ∧ b < w.heap.size) w G arr.toList) (hb : base ≤ w.heap.size) (hl : G.length ≤ 1000000000) :
    Bag base (w.alloc (.cells arr 74)) (.slice (some ⟨w.heap.size, 0, none⟩) G.length G.length) G := by
  have hlen := FC.len hG
  refine ⟨arr.toList, ⟨hlen, .inr ⟨w.heap.size, G.length, arr, rfl, hb, heap_alloc_at _ _, Nat.le_refl _, by simp only [maxLen]; omega, by rw [← Array.length_toList]; exact hlen, ?_⟩⟩, ?_⟩
  · rw [← hlen, List.take_length]
  · exact FC.move (fun b ⟨h1, h2⟩ => ⟨⟨h1, by rw [size_alloc]; omega, fun e => by simp only [Value.ownBlock, Option.some.injEq] at e; omega⟩, heap_alloc_lt _ _ _ h2⟩) hG
theorem FC.two {ok : Nat → Prop} {w : World} (s t : ByteArray) : FC ok w [txt s.data.toList, txt t.data.toList] [.bool false, .string s, .slice none 0 0, .bool false, .string t, .slice none 0 0] := FC.append (FC.texts t) (FC.texts s)
set_option maxRecDepth 100000 in
set_option maxHeartbeats 8000000 in
theorem pref_c (a m : Int) (w : World) (htab : Tab w) (hgB : 2 < w.heap.size) (ha : -1000000 ≤ a ∧ a ≤ 1000000) (hm : -1000000 ≤ m ∧ m ≤ 1000000) :
    Calls Tryz.prog 43 #[.agg #[.int .i64 a, .int .i64 m]] w fun ev w' => ∃ v, ev = .returned v ∧ LForm w.heap.size w' v [nform a, nform m] ∧ Below w.heap.size w w' := by
  obtain ⟨w1, hw1⟩ : ∃ w1, w1 = w.alloc (.cells #[.int .i64 a, .int .i64 m] 36) := ⟨_, rfl⟩
  obtain ⟨w2, hw2⟩ : ∃ w2, w2 = w1.alloc (.cells #[.bool false, .string ⟨#[]⟩, .slice none 0 0] 74) := ⟨_, rfl⟩
  have hs1 : w1.heap.size = w.heap.size + 1 := by rw [hw1]; simp
  have hb2 := Lib.hid (show Below w.heap.size w w2 by rw [hw2, hw1]; exact ((Below.refl _ _).alloc (Nat.le_refl _) _).alloc (by simp) _)
  have hP2 : w2.heap[w.heap.size]? = some (.cells #[.int .i64 a, .int .i64 m] 36 (0, 0)) := by rw [hw2, heap_alloc_lt _ _ _ (by omega), hw1]; exact heap_alloc_at _ _
  have hR2 := Lib.hid (show w2.heap[w.heap.size + 1]? = some (.cells #[.bool false, .string ⟨#[]⟩, .slice none 0 0] 74 (0, 0)) by rw [hw2, ← hs1]; exact heap_alloc_at _ _)
  have hz2 := Lib.hid (show w2.heap.size = w.heap.size + 2 by rw [hw2]; simp [hs1])
  have htabH := Lib.hid htab
  have hgBH := Lib.hid hgB
  obtain ⟨p0, p1, _, _⟩ := two_facts hP2
  obtain ⟨S, hS⟩ : ∃ S : World → Prop, S = fun W => W.cell? ⟨w.heap.size, 0, none⟩ = some (.int .i64 a) ∧ W.cell? ⟨w.heap.size, 1, none⟩ = some (.int .i64 m) := ⟨_, rfl⟩
  have hSi : ∀ W, S W ↔ (W.cell? ⟨w.heap.size, 0, none⟩ = some (.int .i64 a) ∧ W.cell? ⟨w.heap.size, 1, none⟩ = some (.int .i64 m)) := fun W => by rw [hS]
  have hS0 : S w2.drew := (hSi _).2 ⟨p0, p1⟩
  have s1 : ∀ X : InS S, X.val.cell? ⟨w.heap.size, 0, none⟩ = some (.int .i64 a) := fun X => ((hSi X.val).1 X.mem).1
  have s2 : ∀ X : InS S, X.val.cell? ⟨w.heap.size, 1, none⟩ = some (.int .i64 m) := fun X => ((hSi X.val).1 X.mem).2
  have hne : Nonempty (InS S) := ⟨⟨w2.drew, hS0⟩⟩
  have hS0H := Lib.hid hS0
  have hSiH := Lib.hid hSi
  have CN := Lib.hid (fun (n : Int) (hn : -1000000 ≤ n ∧ n ≤ 1000000) W (h : Below w.heap.size w W) => numi_c n (by omega) (by omega) W (htabH.out.keep h hgBH.out))
  have haH := Lib.hid ha
  have hmH := Lib.hid hm
  clear htab hgB hS hSi hS0 hP2 p0 p1 ha hm
  go_enter Tryz.func43, Tryz.ntmps43
  go_upto_region 1 with fail
  rw [← hw1]
  try rw [hs1]
  rw [← hw2]
  replace hw1 := Lib.hid hw1
  replace hw2 := Lib.hid hw2
  replace hs1 := Lib.hid hs1
  refine wp_region_mix S [0, 1, 3, 4] [.mem [0, 1, 3, 4], .keep 2, .keep 5, .keep 6, .keep 7, .last 8] (by kernel_rfl) (by kernel_rfl) hS0H.out ?_
  simp only [pick, List.getD_cons_zero, List.getD_cons_succ, wpMix]
  repeat (go_big_quiet_step (fail))
  refine wpQuiet_nil ?_
  have d := (hSiH.out _).1 hS0H.out
  have hbd := Lib.hid (show Below w.heap.size w w2.drew from hb2.out.drew)
  go_wp2_with (go_at_call 42; (with_reducible refine (CN.out a haH.out _ hbd.out).mono ?_); rintro ev w3 ⟨rfl, hb3⟩)
  have hb3w := Lib.hid (hbd.out.trans (hb3.mono hbd.out.size))
  have d3 := And.intro (keepc hb3 d.1) (keepc hb3 d.2)
  have hR3 := Lib.hid ((hb3.block _ (show w.heap.size + 1 < w2.drew.heap.size from heap_lt hR2.out)).trans hR2.out)
  unfold vtext
  refine ⟨(hSiH.out _).2 d3, ?_⟩
  go_wp2_with (go_at_call 42; (with_reducible refine (CN.out m hmH.out _ hb3w.out).mono ?_); rintro ev w4 ⟨rfl, hb4⟩)
  have hb4w := Lib.hid (hb3w.out.trans (hb4.mono hb3w.out.size))
  have d4 := And.intro (keepc hb4 d3.1) (keepc hb4 d3.2)
  have hR4 := Lib.hid ((hb4.block _ (heap_lt hR3.out)).trans hR3.out)
  unfold vtext
  refine ⟨(hSiH.out _).2 d4, ?_⟩
  go_wp2_with fail
  have d5 := And.intro (cell_alloc d4.1 (.cells #[.bool false, .string ⟨(Lib.itoa a).toArray⟩, .slice none 0 0, .bool false, .string ⟨(Lib.itoa m).toArray⟩, .slice none 0 0] 74)) (cell_alloc d4.2 (.cells #[.bool false, .string ⟨(Lib.itoa a).toArray⟩, .slice none 0 0, .bool false, .string ⟨(Lib.itoa m).toArray⟩, .slice none 0 0] 74))
  obtain ⟨q, hq⟩ : ∃ q, q = w4.heap.size := ⟨_, rfl⟩
  obtain ⟨w5, hw5⟩ : ∃ w5, w5 = w4.alloc (.cells #[.bool false, .string ⟨(Lib.itoa a).toArray⟩, .slice none 0 0, .bool false, .string ⟨(Lib.itoa m).toArray⟩, .slice none 0 0] 74) := ⟨_, rfl⟩
  have hbag5 := Lib.hid (show Bag (w.heap.size + 2) w5 (.slice (some ⟨q, 0, none⟩) 2 2) [nform a, nform m] by
    have := Bag.built (base := w.heap.size + 2) (w := w4) (G := [txt (⟨(Lib.itoa a).toArray⟩ : ByteArray).data.toList, txt (⟨(Lib.itoa m).toArray⟩ : ByteArray).data.toList]) (arr := #[.bool false, .string ⟨(Lib.itoa a).toArray⟩, .slice none 0 0, .bool false, .string ⟨(Lib.itoa m).toArray⟩, .slice none 0 0]) (FC.two _ _) (heap_lt hR4.out) (by show 2 ≤ 1000000000; omega)
    rw [hw5, hq]
    simpa [nform] using this)
  have hb5w := Lib.hid (show Below w.heap.size w w5 by rw [hw5]; exact hb4w.out.alloc hb4w.out.size _)
  have hR5 := Lib.hid (show w5.heap[w.heap.size + 1]? = some (.cells #[.bool false, .string ⟨#[]⟩, .slice none 0 0] 74 (0, 0)) by rw [hw5]; exact (heap_alloc_lt _ _ _ (heap_lt hR4.out)).trans hR4.out)
  rw [← hw5] at d5 ⊢
  rw [← hq]
  replace hw5 := Lib.hid hw5
  replace hq := Lib.hid hq
  clear hb3 hb4 d d3 d4
  refine ⟨(hSiH.out _).2 d5, ?_⟩
  go_wp2_with (go_at_call 41; (with_reducible refine (list_c _ _ _ _).mono ?_); rintro ev w6 ⟨rfl, hb6⟩)
  unfold vlist
  have hb6w := Lib.hid (hb5w.out.trans (hb6.mono hb5w.out.size))
  have d6 := And.intro (keepc hb6 d5.1) (keepc hb6 d5.2)
  have hR6 := (hb6.block _ (heap_lt hR5.out)).trans hR5.out
  have hR6H := Lib.hid hR6
  have hbag6 := Lib.hid (hbag5.out.keep (w' := w6) (fun b h1 h2 => hb6.block b h2) hb6.size)
  obtain ⟨e0, e1, e2, esh, efz⟩ := blk3' hR6
  clear hR6 hb6 d5
  refine ⟨(hSiH.out _).2 d6, ?_⟩
  go_wp2_with fail
  simp only [stepPost]
  go_wp2_with fail
  (try simp only [Exit.inBlock, Exit.then])
  refine bodyPost_ret (results_cell_row rfl _ _ (w.heap.size + 1) 74 #[.bool true, .string ⟨#[]⟩, .slice (some ⟨q, 0, none⟩) 2 2] (0, 0) _ rfl (set3 hR6H.out) Tryz.underlying74 rfl (by kernel_rfl)) rfl ?_
  refine ⟨_, rfl, ⟨_, rfl, ?_⟩, ?_⟩
  · refine Bag.lower (hbag6.out.keep (fun b h1 h2 => ?_) ?_) (Nat.le_add_right _ _)
    · rw [heap_set_ne _ _ _ _ (by show b ≠ w.heap.size + 1; omega), heap_set_ne _ _ _ _ (by show b ≠ w.heap.size + 1; omega), heap_set_ne _ _ _ _ (by show b ≠ w.heap.size + 1; omega)]
    · rw [size_set, size_set, size_set]; exact Nat.le_refl _
  · exact ((hb6w.out.setCell (Nat.le_succ _) _).setCell (Nat.le_succ _) _).setCell (Nat.le_succ _) _
end Go.Proofs.YtbiioaggilaebaaGreatDoor.Pa
set_option linter.unusedVariables false
set_option linter.unusedSimpArgs false
namespace Go.Proofs.YtbiioaggilaebaaGreatDoor.Tm
open Go Go.RowKit Go.Proofs.YtbiioaggilaebaaGreatDoor.B Go.Proofs.YtbiioaggilaebaaGreatDoor.Bld
set_option maxRecDepth 100000 in
theorem rnum_c (n : Int) (h0 : -9223372036854775808 ≤ n) (h1 : n ≤ 9223372036854775807) (w : World) : Calls Tryz.prog 89 #[.int .i64 n] w fun ev w' => ev = .returned (vtext ⟨(Lib.itoa n).toArray⟩) ∧ Below w.heap.size w w' := by
  obtain ⟨w0, hw0⟩ : ∃ w0, w0 = w.alloc (.cells #[.bool false, .string ⟨#[]⟩, .slice none 0 0] 74) := ⟨_, rfl⟩
  have hb0 : Below w.heap.size w w0 := by rw [hw0]; exact (Below.refl _ _).alloc (Nat.le_refl _) _
  have hg : w0.heap[w.heap.size]? = some (.cells #[.bool false, .string ⟨#[]⟩, .slice none 0 0] 74 (0, 0)) := by rw [hw0]; exact heap_alloc_at _ _
  have CI := Lib.hid (digits_c n h0 h1 w0)
  have hgH := Lib.hid hg
  have hb0H := Lib.hid hb0
  clear hg hb0
  go_enter Tryz.func89, Tryz.ntmps89
  go_wp2_with fail
  rw [← hw0]
  replace hw0 := Lib.hid hw0
  refine (CI.out).mono ?_
  rintro ev w1 ⟨rfl, hb1⟩
  have hb1H := Lib.hid hb1
  clear hb1
  obtain ⟨t, ht⟩ : ∃ t : ByteArray, t = ⟨(Lib.itoa n).toArray⟩ := ⟨_, rfl⟩
  rw [← ht]
  replace ht := Lib.hid ht
  go_wp2_with fail
  refine (rtext_c _ w1).mono ?_
  rintro ev w2 ⟨rfl, hb2⟩
  have hg2 : w2.heap[w.heap.size]? = some (.cells #[.bool false, .string ⟨#[]⟩, .slice none 0 0] 74 (0, 0)) := by
    have hs := heap_lt hgH.out
    rw [hb2.block _ (Nat.lt_of_lt_of_le hs hb1H.out.size), hb1H.out.block _ hs]
    exact hgH.out
  have hbb := Lib.hid (hb0H.out.trans ((hb1H.out.mono (Nat.le_of_lt (heap_lt hgH.out))).trans (hb2.mono (Nat.le_trans (Nat.le_of_lt (heap_lt hgH.out)) hb1H.out.size))))
  unfold vtext
  obtain ⟨k0, k1, k2, hsh, hfz⟩ := blk3 hg2
  clear hb2
  go_wp2_with fail
  (try simp only [Exit.inBlock, Exit.then])
  refine bodyPost_ret (results_cell_row rfl _ _ w.heap.size 74 #[.bool false, .string t, .slice none 0 0] (0, 0) _ rfl (set3 hg2) Tryz.underlying74 rfl (by kernel_rfl)) rfl ⟨by rw [← ht.out]; rfl, ?_⟩
  exact ((hbb.out.setCell (Nat.le_refl _) _).setCell (Nat.le_refl _) _).setCell (Nat.le_refl _) _
end Go.Proofs.YtbiioaggilaebaaGreatDoor.Tm
namespace Go.Proofs.YtbiioaggilaebaaGreatDoor.Pa
open Go Go.RowKit Go.Proofs.YtbiioaggilaebaaGreatDoorW.PrintWords Go.Proofs.YtbiioaggilaebaaGreatDoor.B Go.Proofs.YtbiioaggilaebaaGreatDoor.Tm Go.Proofs.YtbiioaggilaebaaGreatDoor.Wi
set_option maxRecDepth 100000 in
set_option maxHeartbeats 8000000 in
theorem rtwo_c (a m : Int) (w : World) (ha : -1000000 ≤ a ∧ a ≤ 1000000) (hm : -1000000 ≤ m ∧ m ≤ 1000000) :
    Calls Tryz.prog 90 #[.agg #[.int .i64 a, .int .i64 m]] w fun ev w' => ∃ v, ev = .returned v ∧ LForm w.heap.size w' v [nform a, nform m] ∧ Below w.heap.size w w' := by
  obtain ⟨w1, hw1⟩ : ∃ w1, w1 = w.alloc (.cells #[.int .i64 a, .int .i64 m] 36) := ⟨_, rfl⟩
  obtain ⟨w2, hw2⟩ : ∃ w2, w2 = w1.alloc (.cells #[.bool false, .string ⟨#[]⟩, .slice none 0 0] 74) := ⟨_, rfl⟩
  have hs1 : w1.heap.size = w.heap.size + 1 := by rw [hw1]; simp
  have hb2 := Lib.hid (show Below w.heap.size w w2 by rw [hw2, hw1]; exact ((Below.refl _ _).alloc (Nat.le_refl _) _).alloc (by simp) _)
  have hP2 : w2.heap[w.heap.size]? = some (.cells #[.int .i64 a, .int .i64 m] 36 (0, 0)) := by rw [hw2, heap_alloc_lt _ _ _ (by omega), hw1]; exact heap_alloc_at _ _
  have hR2 := Lib.hid (show w2.heap[w.heap.size + 1]? = some (.cells #[.bool false, .string ⟨#[]⟩, .slice none 0 0] 74 (0, 0)) by rw [hw2, ← hs1]; exact heap_alloc_at _ _)
  have hz2 := Lib.hid (show w2.heap.size = w.heap.size + 2 by rw [hw2]; simp [hs1])
  obtain ⟨p0, p1, _, _⟩ := two_facts hP2
  obtain ⟨S, hS⟩ : ∃ S : World → Prop, S = fun W => W.cell? ⟨w.heap.size, 0, none⟩ = some (.int .i64 a) ∧ W.cell? ⟨w.heap.size, 1, none⟩ = some (.int .i64 m) := ⟨_, rfl⟩
  have hSi : ∀ W, S W ↔ (W.cell? ⟨w.heap.size, 0, none⟩ = some (.int .i64 a) ∧ W.cell? ⟨w.heap.size, 1, none⟩ = some (.int .i64 m)) := fun W => by rw [hS]
  have hS0 : S w2.drew := (hSi _).2 ⟨p0, p1⟩
  have s1 : ∀ X : InS S, X.val.cell? ⟨w.heap.size, 0, none⟩ = some (.int .i64 a) := fun X => ((hSi X.val).1 X.mem).1
  have s2 : ∀ X : InS S, X.val.cell? ⟨w.heap.size, 1, none⟩ = some (.int .i64 m) := fun X => ((hSi X.val).1 X.mem).2
  have hne : Nonempty (InS S) := ⟨⟨w2.drew, hS0⟩⟩
  have hS0H := Lib.hid hS0
  have hSiH := Lib.hid hSi
  have CN := Lib.hid (fun (n : Int) (hn : -1000000 ≤ n ∧ n ≤ 1000000) W (h : Below w.heap.size w W) => rnum_c n (by omega) (by omega) W)
  have haH := Lib.hid ha
  have hmH := Lib.hid hm
  clear hS hSi hS0 hP2 p0 p1 ha hm
  go_enter Tryz.func90, Tryz.ntmps90
  go_upto_region 1 with fail
  rw [← hw1]
  try rw [hs1]
  rw [← hw2]
  replace hw1 := Lib.hid hw1
  replace hw2 := Lib.hid hw2
  replace hs1 := Lib.hid hs1
  refine wp_region_mix S [0, 1, 3, 4] [.mem [0, 1, 3, 4], .keep 2, .keep 5, .keep 6, .keep 7, .last 8] (by kernel_rfl) (by kernel_rfl) hS0H.out ?_
  simp only [pick, List.getD_cons_zero, List.getD_cons_succ, wpMix]
  repeat (go_big_quiet_step (fail))
  refine wpQuiet_nil ?_
  have d := (hSiH.out _).1 hS0H.out
  have hbd := Lib.hid (show Below w.heap.size w w2.drew from hb2.out.drew)
  go_wp2_with (go_at_call 89; (with_reducible refine (CN.out a haH.out _ hbd.out).mono ?_); rintro ev w3 ⟨rfl, hb3⟩)
  have hb3w := Lib.hid (hbd.out.trans (hb3.mono hbd.out.size))
  have d3 := And.intro (keepc hb3 d.1) (keepc hb3 d.2)
  have hR3 := Lib.hid ((hb3.block _ (show w.heap.size + 1 < w2.drew.heap.size from heap_lt hR2.out)).trans hR2.out)
  unfold vtext
  refine ⟨(hSiH.out _).2 d3, ?_⟩
  go_wp2_with (go_at_call 89; (with_reducible refine (CN.out m hmH.out _ hb3w.out).mono ?_); rintro ev w4 ⟨rfl, hb4⟩)
  have hb4w := Lib.hid (hb3w.out.trans (hb4.mono hb3w.out.size))
  have d4 := And.intro (keepc hb4 d3.1) (keepc hb4 d3.2)
  have hR4 := Lib.hid ((hb4.block _ (heap_lt hR3.out)).trans hR3.out)
  unfold vtext
  refine ⟨(hSiH.out _).2 d4, ?_⟩
  go_wp2_with fail
  have d5 := And.intro (cell_alloc d4.1 (.cells #[.bool false, .string ⟨(Lib.itoa a).toArray⟩, .slice none 0 0, .bool false, .string ⟨(Lib.itoa m).toArray⟩, .slice none 0 0] 74)) (cell_alloc d4.2 (.cells #[.bool false, .string ⟨(Lib.itoa a).toArray⟩, .slice none 0 0, .bool false, .string ⟨(Lib.itoa m).toArray⟩, .slice none 0 0] 74))
  obtain ⟨q, hq⟩ : ∃ q, q = w4.heap.size := ⟨_, rfl⟩
  obtain ⟨w5, hw5⟩ : ∃ w5, w5 = w4.alloc (.cells #[.bool false, .string ⟨(Lib.itoa a).toArray⟩, .slice none 0 0, .bool false, .string ⟨(Lib.itoa m).toArray⟩, .slice none 0 0] 74) := ⟨_, rfl⟩
  have hbag5 := Lib.hid (show Bag (w.heap.size + 2) w5 (.slice (some ⟨q, 0, none⟩) 2 2) [nform a, nform m] by
    have := Bag.built (base := w.heap.size + 2) (w := w4) (G := [txt (⟨(Lib.itoa a).toArray⟩ : ByteArray).data.toList, txt (⟨(Lib.itoa m).toArray⟩ : ByteArray).data.toList]) (arr := #[.bool false, .string ⟨(Lib.itoa a).toArray⟩, .slice none 0 0, .bool false, .string ⟨(Lib.itoa m).toArray⟩, .slice none 0 0]) (FC.two _ _) (heap_lt hR4.out) (by show 2 ≤ 1000000000; omega)
    rw [hw5, hq]
    simpa [nform] using this)
  have hb5w := Lib.hid (show Below w.heap.size w w5 by rw [hw5]; exact hb4w.out.alloc hb4w.out.size _)
  have hR5 := Lib.hid (show w5.heap[w.heap.size + 1]? = some (.cells #[.bool false, .string ⟨#[]⟩, .slice none 0 0] 74 (0, 0)) by rw [hw5]; exact (heap_alloc_lt _ _ _ (heap_lt hR4.out)).trans hR4.out)
  rw [← hw5] at d5 ⊢
  rw [← hq]
  replace hw5 := Lib.hid hw5
  replace hq := Lib.hid hq
  clear hb3 hb4 d d3 d4
  refine ⟨(hSiH.out _).2 d5, ?_⟩
  go_wp2_with (go_at_call 87; (with_reducible refine (rlist_c _ _ _ _).mono ?_); rintro ev w6 ⟨rfl, hb6⟩)
  unfold vlist
  have hb6w := Lib.hid (hb5w.out.trans (hb6.mono hb5w.out.size))
  have d6 := And.intro (keepc hb6 d5.1) (keepc hb6 d5.2)
  have hR6 := (hb6.block _ (heap_lt hR5.out)).trans hR5.out
  have hR6H := Lib.hid hR6
  have hbag6 := Lib.hid (hbag5.out.keep (w' := w6) (fun b h1 h2 => hb6.block b h2) hb6.size)
  obtain ⟨e0, e1, e2, esh, efz⟩ := blk3' hR6
  clear hR6 hb6 d5
  refine ⟨(hSiH.out _).2 d6, ?_⟩
  go_wp2_with fail
  simp only [stepPost]
  go_wp2_with fail
  (try simp only [Exit.inBlock, Exit.then])
  refine bodyPost_ret (results_cell_row rfl _ _ (w.heap.size + 1) 74 #[.bool true, .string ⟨#[]⟩, .slice (some ⟨q, 0, none⟩) 2 2] (0, 0) _ rfl (set3 hR6H.out) Tryz.underlying74 rfl (by kernel_rfl)) rfl ?_
  refine ⟨_, rfl, ⟨_, rfl, ?_⟩, ?_⟩
  · refine Bag.lower (hbag6.out.keep (fun b h1 h2 => ?_) ?_) (Nat.le_add_right _ _)
    · rw [heap_set_ne _ _ _ _ (by show b ≠ w.heap.size + 1; omega), heap_set_ne _ _ _ _ (by show b ≠ w.heap.size + 1; omega), heap_set_ne _ _ _ _ (by show b ≠ w.heap.size + 1; omega)]
    · rw [size_set, size_set, size_set]; exact Nat.le_refl _
  · exact ((hb6w.out.setCell (Nat.le_succ _) _).setCell (Nat.le_succ _) _).setCell (Nat.le_succ _) _
end Go.Proofs.YtbiioaggilaebaaGreatDoor.Pa
