/- What LawPatchWrites lean on, part y of 29: the texts PbA, PbB, PbC, PcB. -/
import Derived.Test.YtbiioaggilaebaaGreatDoorTVs
import Derived.Test.YtbiioaggilaebaaGreatDoorTVx
set_option linter.unusedVariables false
set_option linter.unusedSimpArgs false
namespace Go.Proofs.YtbiioaggilaebaaGreatDoor.Pa
open Go Go.RowKit Go.Proofs.YtbiioaggilaebaaGreatDoorW.PrintWords Go.Proofs.YtbiioaggilaebaaGreatDoor.B Go.Proofs.YtbiioaggilaebaaGreatDoor.Tm Go.Proofs.YtbiioaggilaebaaGreatDoor.Wi
theorem setCell_self {w : World} {b i : Nat} {cs : Array Value} {t : TypeId} {v : Value} (h : w.heap[b]? = some (.cells cs t (0, 0))) (hv : cs[i]? = some v) : w.setCell ⟨b, i, none⟩ v = w := by
  have e : (w.setCell ⟨b, i, none⟩ v).heap = w.heap := by
    apply Array.ext'
    apply List.ext_getElem?
    intro j
    rw [Array.getElem?_toList, Array.getElem?_toList]
    by_cases hj : j = b
    · subst hj
      rw [heap_set w j i v cs t (0, 0) h, h]
      obtain ⟨hi, hv'⟩ := Array.getElem?_eq_some_iff.1 hv
      subst hv'
      congr 2
      apply Array.ext
      · simp
      · intro k k1 k2
        rw [Array.getElem_setIfInBounds]
        split
        · next hk => subst hk; rfl
        · rfl
    · exact heap_set_ne _ _ _ _ hj
  show { w with heap := (w.setCell ⟨b, i, none⟩ v).heap } = w
  rw [e]
def RdOk (w : World) (rb : Nat) : Prop := w.heap[rb]? = some (.cells #[.bool false] 88 (0, 0))
theorem RdOk.below {w w' : World} {rb : Nat} (h : RdOk w rb) (hb : Below w.heap.size w w') : RdOk w' rb := (hb.block _ (heap_lt h)).trans h
theorem RdOk.same {w : World} {rb : Nat} (h : RdOk w rb) : w.setCell ⟨rb, 0, none⟩ (.bool false) = w := setCell_self h rfl
theorem rd1 {W : World} {b : Nat} (h : RdOk W b) : W.cell? ⟨b, 0, none⟩ = some (.bool false) ∧ W.shape? b = some (88, 1) ∧ ∀ i, W.frozen? ⟨b, i, none⟩ = false :=
  ⟨by rw [cell_of h]; rfl, by unfold World.shape?; rw [h]; rfl, fun i => blk_frozen h i⟩
set_option maxRecDepth 100000 in
set_option maxHeartbeats 4000000 in
theorem items_ok (rb : Nat) (s : ByteArray) (A : Option Addr) (nl c : Nat) (n : Int) (hn : n = -1 ∨ n = nl) (w : World) (hl : nl ≤ 140737488355328) :
    Calls Tryz.prog 53 #[.pointer (some ⟨rb, 0, none⟩), .agg #[.bool true, .string s, .slice A nl c], .int .i64 n] w fun e w' => e = .returned (.slice A nl c) ∧ Below w.heap.size w w' := by
  obtain ⟨w1, hw1⟩ : ∃ w1, w1 = w.alloc (.cells #[.bool true, .string s, .slice A nl c] 74) := ⟨_, rfl⟩
  have hf1 := Lib.hid (show w1.heap[w.heap.size]? = some (.cells #[.bool true, .string s, .slice A nl c] 74 (0, 0)) by rw [hw1]; exact heap_alloc_at _ _)
  have hb1 := Lib.hid (show Below w.heap.size w w1 by rw [hw1]; exact Wi.below_alloc _ _)
  obtain ⟨p0, p1, p2, _, _⟩ := blk3' hf1.out
  rcases hn with rfl | rfl
  · go_enter Tryz.func53, Tryz.ntmps53
    go_upto_region 1 with fail
    rw [← hw1]
    replace hw1 := Lib.hid hw1
    go_wp2_with fail
    go_ret
    exact ⟨rfl, hb1.out⟩
  · have e0 : (0 : Int) ≤ (nl : Int) := by omega
    go_enter Tryz.func53, Tryz.ntmps53
    go_upto_region 1 with fail
    rw [← hw1]
    replace hw1 := Lib.hid hw1
    go_wp2_with fail
    go_ret
    exact ⟨rfl, hb1.out⟩
set_option maxRecDepth 100000 in
set_option maxHeartbeats 4000000 in
theorem text_ok (rb : Nat) (s : ByteArray) (A : Option Addr) (nl c : Nat) (w : World) (hr : RdOk w rb) :
    Calls Tryz.prog 54 #[.pointer (some ⟨rb, 0, none⟩), .agg #[.bool false, .string s, .slice A nl c]] w fun e w' => e = .returned (.string s) ∧ Below w.heap.size w w' := by
  obtain ⟨w1, hw1⟩ : ∃ w1, w1 = w.alloc (.cells #[.bool false, .string s, .slice A nl c] 74) := ⟨_, rfl⟩
  have hf1 := Lib.hid (show w1.heap[w.heap.size]? = some (.cells #[.bool false, .string s, .slice A nl c] 74 (0, 0)) by rw [hw1]; exact heap_alloc_at _ _)
  have hb1 := Lib.hid (show Below w.heap.size w w1 by rw [hw1]; exact Wi.below_alloc _ _)
  have hr1 := Lib.hid (show RdOk w1 rb from hr.below hb1.out)
  have hsm := hr1.out.same
  obtain ⟨p0, p1, p2, _, _⟩ := blk3' hf1.out
  obtain ⟨q0, qsh, qfz⟩ := rd1 hr1.out
  clear hr
  go_enter Tryz.func54, Tryz.ntmps54
  go_upto_region 1 with fail
  rw [← hw1]
  replace hw1 := Lib.hid hw1
  go_upto_region 2 with fail
  try rw [hsm]
  go_wp2_with fail
  go_ret
  exact ⟨rfl, hb1.out⟩
set_option maxRecDepth 100000 in
set_option maxHeartbeats 4000000 in
theorem num_ok (rb : Nat) (x : Int) (hx : -2 ≤ x ∧ x ≤ 65536) (c : Nat) (A : Option Addr) (w : World) (hr : RdOk w rb) (he : Errs w) (htab : Tab w) :
    Calls Tryz.prog 56 #[.pointer (some ⟨rb, 0, none⟩), .agg #[.bool false, .string ⟨(Lib.itoa x).toArray⟩, .slice A 0 c]] w fun e w' => e = .returned (.int .i64 x) ∧ Below w.heap.size w w' := by
  obtain ⟨t, ht⟩ : ∃ t : ByteArray, t = ⟨(Lib.itoa x).toArray⟩ := ⟨_, rfl⟩
  rw [← ht]
  have hts : t.size ≤ 1000 := by rw [ht]; show (Lib.itoa x).toArray.size ≤ _; rw [List.size_toArray]; have := Lib.itoa_length_le x (by omega) (by omega); omega
  have ht' := Lib.hid (show t.data.toList = Lib.itoa x by rw [ht])
  replace ht := Lib.hid ht
  obtain ⟨w1, hw1⟩ : ∃ w1, w1 = w.alloc (.cells #[.bool false, .string t, .slice A 0 c] 74) := ⟨_, rfl⟩
  have hf1 := Lib.hid (show w1.heap[w.heap.size]? = some (.cells #[.bool false, .string t, .slice A 0 c] 74 (0, 0)) by rw [hw1]; exact heap_alloc_at _ _)
  have hb1 := Lib.hid (show Below w.heap.size w w1 by rw [hw1]; exact Wi.below_alloc _ _)
  have hr1 := Lib.hid (show RdOk w1 rb from hr.below hb1.out)
  have CN := Lib.hid (number_c false t A 0 c (-2) 65536 (by omega) (by omega) (by omega) (by omega) w1 (he.below hb1.out) (htab.below hb1.out (Nat.le_refl _)))
  obtain ⟨p0, p1, p2, _, _⟩ := blk3' hf1.out
  have hxH := Lib.hid hx
  clear hr he htab hx hts
  go_enter Tryz.func56, Tryz.ntmps56
  go_upto_region 1 with fail
  rw [← hw1]
  replace hw1 := Lib.hid hw1
  go_wp2_with fail
  refine (CN.out).mono ?_
  rintro ev w2 ⟨y, er, rfl, hers, _, hsp, hb2⟩
  obtain ⟨rfl, rfl⟩ := hsp x hxH.out.1 hxH.out.2 rfl rfl ht'.out
  have hr2 := Lib.hid (hr1.out.below hb2)
  have hb2w := Lib.hid (hb1.out.trans (hb2.mono hb1.out.size))
  have hsm := hr2.out.same
  obtain ⟨q0, qsh, qfz⟩ := rd1 hr2.out
  clear hers hsp hb2
  go_upto_region 3 with fail
  try rw [hsm]
  go_wp2_with fail
  go_ret
  exact ⟨rfl, hb2w.out⟩
end Go.Proofs.YtbiioaggilaebaaGreatDoor.Pa
set_option linter.unusedVariables false
set_option linter.unusedSimpArgs false
namespace Go.Proofs.YtbiioaggilaebaaGreatDoor.Pa
open Go Go.RowKit Go.Proofs.YtbiioaggilaebaaGreatDoorW.PrintWords Go.Proofs.YtbiioaggilaebaaGreatDoor.B Go.Proofs.YtbiioaggilaebaaGreatDoor.Tm Go.Proofs.YtbiioaggilaebaaGreatDoor.Wi
theorem FKs.txt_at {ok : Nat → Prop} {w : World} {A : Option Addr} {l : List F} (h : FKs ok w A 0 l) (k : Nat) (t : List UInt8) (hk : l[k]? = some (txt t)) : ∃ b o A' c', A = some ⟨b, o, none⟩ ∧ ok b ∧ w.cell? ⟨b, o + k * 3, none⟩ = some (.bool false) ∧ w.cell? ⟨b, o + k * 3 + 1, none⟩ = some (.string ⟨t.toArray⟩) ∧ w.cell? ⟨b, o + k * 3 + 2, none⟩ = some (.slice A' 0 c') := by
  obtain ⟨b, o, c0, c1, c2, e1, e2, e3, e4, e5, e6⟩ := FKs.get l 0 h k _ hk
  rw [Nat.zero_add] at e3 e4 e5
  unfold txt FK at e6
  obtain ⟨A', c', f1, _⟩ := e6
  simp only [List.cons.injEq, and_true] at f1
  obtain ⟨rfl, rfl, rfl⟩ := f1
  exact ⟨b, o, A', c', e1, e2, e3, e4, e5⟩
theorem FKs.lst_at {ok : Nat → Prop} {w : World} {A : Option Addr} {l : List F} (h : FKs ok w A 0 l) (k : Nat) (g : List F) (hk : l[k]? = some (lst g)) : ∃ b o A' c', A = some ⟨b, o, none⟩ ∧ ok b ∧ w.cell? ⟨b, o + k * 3, none⟩ = some (.bool true) ∧ w.cell? ⟨b, o + k * 3 + 1, none⟩ = some (.string ⟨#[]⟩) ∧ w.cell? ⟨b, o + k * 3 + 2, none⟩ = some (.slice A' g.length c') ∧ FKs ok w A' 0 g := by
  obtain ⟨b, o, c0, c1, c2, e1, e2, e3, e4, e5, e6⟩ := FKs.get l 0 h k _ hk
  rw [Nat.zero_add] at e3 e4 e5
  unfold lst FK at e6
  obtain ⟨A', c', f1, _, _, f2⟩ := e6
  simp only [List.cons.injEq, and_true] at f1
  obtain ⟨rfl, rfl, rfl⟩ := f1
  exact ⟨b, o, A', c', e1, e2, e3, e4, e5, f2⟩
set_option maxRecDepth 100000 in
set_option maxHeartbeats 8000000 in
theorem texts_ok (rb : Nat) (s : ByteArray) (A : Option Addr) (c : Nat) (l : List ByteArray) (ok : Nat → Prop) (w : World) (hr : RdOk w rb) (hF : FKs ok w A 0 (lhave l)) (hn : l.length ≤ 100000) (hsz : ∀ x ∈ l, x.size ≤ 140737488351232) :
    Calls Tryz.prog 55 #[.pointer (some ⟨rb, 0, none⟩), .agg #[.bool true, .string s, .slice A l.length c]] w fun e w' => ∃ D dc, e = .returned (.slice D l.length dc) ∧ TxAt w' D dc l ∧ (∀ a, D = some a → w.heap.size ≤ a.block ∧ a.block < w'.heap.size) ∧ Below w.heap.size w w' := by
  obtain ⟨n, hN⟩ : ∃ n, n = l.length := ⟨_, rfl⟩
  rw [← hN] at hn ⊢
  replace hN := Lib.hid hN
  obtain ⟨w1, hw1⟩ : ∃ w1, w1 = w.alloc (.cells #[.bool true, .string s, .slice A n c] 74) := ⟨_, rfl⟩
  have hf1 := Lib.hid (show w1.heap[w.heap.size]? = some (.cells #[.bool true, .string s, .slice A n c] 74 (0, 0)) by rw [hw1]; exact heap_alloc_at _ _)
  have hb1 := Lib.hid (show Below w.heap.size w w1 by rw [hw1]; exact Wi.below_alloc _ _)
  have hrH := Lib.hid hr
  have hFH := Lib.hid hF
  have hszH := Lib.hid hsz
  have hnH := Lib.hid hn
  have CI := Lib.hid (items_ok rb s A n c (-1) (.inl rfl) w1 (by omega))
  obtain ⟨p0, p1, p2, _, _⟩ := blk3' hf1.out
  clear hr hF hsz
  go_enter Tryz.func55, Tryz.ntmps55
  go_upto_region 1 with fail
  rw [← hw1]
  replace hw1 := Lib.hid hw1
  go_upto_region 2 with fail
  go_wp2_with fail
  refine (CI.out).mono ?_
  rintro ev w2 ⟨rfl, hb2⟩
  have hb2w := Lib.hid (hb1.out.trans (hb2.mono hb1.out.size))
  clear hb2 p0 p1 p2 CI
  go_upto_region 3 with fail
  go_loopg [5, 12] n (fun g' v5 i W => ∃ (k : Nat) (v : Value), g' = n - k ∧ k ≤ n ∧ v5 = v ∧ i = .int .i64 k ∧ StrRow w2.heap.size W v (l.take k) ∧ Below w2.heap.size w2 W)
  case atStart => exact ⟨0, .slice none 0 0, by omega, by omega, rfl, rfl, StrRow.nil _ _, Below.refl _ _⟩
  case round =>
    obtain ⟨k, v, hg', hk, rfl, rfl, hrow, hbr⟩ := hrel
    subst hg'
    have hrowH := Lib.hid hrow
    have hbrH := Lib.hid hbr
    have hbw := Lib.hid (hb2w.out.trans (hbr.mono hb2w.out.size))
    by_cases hkn : k < n
    · have hki : (k : Int) < (n : Int) := by omega
      have hkl : k < l.length := by rw [← hN.out]; exact hkn
      obtain ⟨x, hx⟩ : ∃ x, x = l[k] := ⟨_, rfl⟩
      obtain ⟨b, o, A', c', rfl, _, i0, i1, i2⟩ := FKs.txt_at hFH.out k x.data.toList (by unfold lhave; rw [List.getElem?_map, List.getElem?_eq_getElem hkl, hx]; rfl)
      replace i0 := keepc hbw.out i0
      replace i1 := keepc hbw.out i1
      replace i2 := keepc hbw.out i2
      rw [show (⟨x.data.toList.toArray⟩ : ByteArray) = x from rfl] at i1
      have hnext := Lib.hid (show l.take (k + 1) = l.take k ++ [x] by rw [hx]; exact List.take_succ_eq_append_getElem hkl)
      have hlen := Lib.hid (show (l.take k).length = k by rw [List.length_take]; omega)
      replace hx := Lib.hid hx
      obtain ⟨Q, hQ⟩ : ∃ Q, Q = wr.heap.size := ⟨_, rfl⟩
      obtain ⟨W1, hW1⟩ : ∃ W1, W1 = wr.alloc (.cells #[.bool false, .string x, .slice A' 0 c'] 74) := ⟨_, rfl⟩
      have hq1 := Lib.hid (show W1.heap[Q]? = some (.cells #[.bool false, .string x, .slice A' 0 c'] 74 (0, 0)) by rw [hW1, hQ]; exact heap_alloc_at _ _)
      have hbW1 := Lib.hid (show Below wr.heap.size wr W1 by rw [hW1]; exact Wi.below_alloc _ _)
      have hbW1w := Lib.hid (hbw.out.trans (hbW1.out.mono hbw.out.size))
      have CT := Lib.hid (text_ok rb x A' 0 c' W1 (hrH.out.below hbW1w.out))
      obtain ⟨z0, z1, z2, _, _⟩ := blk3' hq1.out
      clear hrow hbr
      go_upto_region 5 with fail
      rw [← hW1, ← hQ]
      replace hW1 := Lib.hid hW1
      replace hQ := Lib.hid hQ
      go_wp2_with fail
      refine (CT.out).mono ?_
      rintro ev W2 ⟨rfl, hbW2⟩
      have hbW2H := Lib.hid (hbW1.out.trans (hbW2.mono hbW1.out.size))
      have hrow2 := Lib.hid (hrowH.out.keep (W' := W2) (fun b _ h2 => hbW2H.out.block b h2))
      have hbase := Lib.hid (show w2.heap.size ≤ W2.heap.size from Nat.le_trans hbrH.out.size hbW2H.out.size)
      clear hbW2 z0 z1 z2 i0 i1 i2 CT
      go_wp2_with (at_builtin; refine str_app (by rfl) _ _ _ (by rfl) Tryz.underlying22 (by rfl) k 1 (by rfl) hrow2.out hlen.out (by omega) hbase.out ?_; intro g7 cap7 w7 hrow7 hgrew7; have hrow7H := Lib.hid hrow7; have hgrew7H := Lib.hid hgrew7; clear hrow7 hgrew7)
      go_roundg (n - (k + 1))
      case measure => omega
      case rel =>
        refine ⟨k + 1, .slice (some ⟨g7, 0, none⟩) (k + 1) cap7, rfl, by omega, rfl, by go_num, ?_, ?_⟩
        · rw [hnext.out]; exact hrow7H.out
        · exact hgrew7H.out.below (hbrH.out.trans (hbW2H.out.mono hbrH.out.size)) hbase.out (fun b hb => (hrow2.out.lt b hb).1)
    · have hkn' : k = n := by omega
      subst hkn'
      have hki : ¬ (k : Int) < (k : Int) := by omega
      have ht : l.take k = l := List.take_of_length_le (by rw [← hN.out]; exact Nat.le_refl _)
      rw [ht] at hrow
      obtain ⟨D, dc, rfl, h1, h2, h3⟩ := hrow.read
      have hfin := Lib.hid (show TxAt wr D dc l ∧ (∀ a, D = some a → w.heap.size ≤ a.block ∧ a.block < wr.heap.size) from
        ⟨⟨h2, h1, by rw [← hN.out]; have := hnH.out; omega, hszH.out⟩, fun a ha => ⟨Nat.le_trans hb2w.out.size (h3 a ha), by
          have := hrow.lt a.block (by
            subst ha
            obtain ⟨k1, k2⟩ := hrow
            rcases k2 with ⟨e, _⟩ | ⟨g, cap, cur, e, _⟩
            · cases e
            · cases e; rfl)
          exact this.2⟩⟩)
      have hNo := Lib.hid hN.out
      clear hrow hbr h1 h2 h3 ht
      rw [← hNo.out]
      go_wp2_with fail
      go_ret
      exact ⟨D, dc, rfl, hfin.out.1, hfin.out.2, hbw.out⟩
end Go.Proofs.YtbiioaggilaebaaGreatDoor.Pa
set_option linter.unusedVariables false
set_option linter.unusedSimpArgs false
namespace Go.Proofs.YtbiioaggilaebaaGreatDoor.Pa
open Go Go.RowKit Go.Proofs.YtbiioaggilaebaaGreatDoorW.PrintWords Go.Proofs.YtbiioaggilaebaaGreatDoor.B Go.Proofs.YtbiioaggilaebaaGreatDoor.Tm Go.Proofs.YtbiioaggilaebaaGreatDoor.Wi
theorem set2 {w : World} {g : Nat} {a b x y : Value} {t : TypeId} (h : w.heap[g]? = some (.cells #[a, b] t (0, 0))) :
    ((w.setCell ⟨g, 0, none⟩ x).setCell ⟨g, 1, none⟩ y).heap[g]? = some (.cells #[x, y] t (0, 0)) := by
  have h1 := heap_set w g 0 x _ t _ h
  have h2 := heap_set _ g 1 y _ t _ h1
  exact h2
set_option maxRecDepth 100000 in
set_option maxHeartbeats 8000000 in
theorem ref_ok (rb : Nat) (s : ByteArray) (A : Option Addr) (c : Nat) (x y : Int) (hx : -2 ≤ x ∧ x ≤ 65536) (hy : -2 ≤ y ∧ y ≤ 65536) (ok : Nat → Prop) (w : World) (hr : RdOk w rb) (he : Errs w) (htab : Tab w) (hgB : 2 < w.heap.size) (hF : FKs ok w A 0 [nform x, nform y]) :
    Calls Tryz.prog 57 #[.pointer (some ⟨rb, 0, none⟩), .agg #[.bool true, .string s, .slice A 2 c]] w fun e w' => e = .returned (.agg #[.int .i64 x, .int .i64 y]) ∧ Below w.heap.size w w' := by
  obtain ⟨b, o, A0, c0, rfl, _, i0, i1, i2⟩ := FKs.txt_at hF 0 (Lib.itoa x) rfl
  obtain ⟨b', o', A1, c1, e, _, j0, j1, j2⟩ := FKs.txt_at hF 1 (Lib.itoa y) rfl
  cases e
  rw [Nat.zero_mul, Nat.add_zero] at i0 i1 i2
  rw [Nat.one_mul] at j0 j1 j2
  obtain ⟨w1, hw1⟩ : ∃ w1, w1 = w.alloc (.cells #[.bool true, .string s, .slice (some ⟨b, o, none⟩) 2 c] 74) := ⟨_, rfl⟩
  obtain ⟨w2, hw2⟩ : ∃ w2, w2 = w1.alloc (.cells #[.int .i64 0, .int .i64 0] 36) := ⟨_, rfl⟩
  have hs1 : w1.heap.size = w.heap.size + 1 := by rw [hw1]; simp
  have hf2 := Lib.hid (show w2.heap[w.heap.size]? = some (.cells #[.bool true, .string s, .slice (some ⟨b, o, none⟩) 2 c] 74 (0, 0)) by rw [hw2, heap_alloc_lt _ _ _ (by omega), hw1]; exact heap_alloc_at _ _)
  have hR2 := Lib.hid (show w2.heap[w.heap.size + 1]? = some (.cells #[.int .i64 0, .int .i64 0] 36 (0, 0)) by rw [hw2, ← hs1]; exact heap_alloc_at _ _)
  have hb2 := Lib.hid (show Below w.heap.size w w2 by rw [hw2, hw1]; exact ((Below.refl _ _).alloc (Nat.le_refl _) _).alloc (by simp) _)
  have CI := Lib.hid (items_ok rb s (some ⟨b, o, none⟩) 2 c 2 (.inr rfl) w2 (by omega))
  have hrH := Lib.hid hr
  have heH := Lib.hid he
  have htabH := Lib.hid htab
  have hgBH := Lib.hid hgB
  have hxH := Lib.hid hx
  have hyH := Lib.hid hy
  obtain ⟨p0, p1, p2, _, _⟩ := blk3' hf2.out
  have hc := Lib.hid (show (w.cell? ⟨b, o, none⟩ = some (.bool false) ∧ w.cell? ⟨b, o + 1, none⟩ = some (.string ⟨(Lib.itoa x).toArray⟩) ∧ w.cell? ⟨b, o + 2, none⟩ = some (.slice A0 0 c0)) ∧ w.cell? ⟨b, o + 3, none⟩ = some (.bool false) ∧ w.cell? ⟨b, o + 4, none⟩ = some (.string ⟨(Lib.itoa y).toArray⟩) ∧ w.cell? ⟨b, o + 5, none⟩ = some (.slice A1 0 c1) from ⟨⟨i0, i1, i2⟩, j0, j1, j2⟩)
  clear hr he htab hgB hF hx hy i0 i1 i2 j0 j1 j2
  obtain ⟨S, hS⟩ : ∃ S : World → Prop, S = fun W => Below w.heap.size w W := ⟨_, rfl⟩
  have hSi : ∀ W, S W ↔ Below w.heap.size w W := fun W => by rw [hS]
  have s1 : ∀ X : InS S, X.val.cell? ⟨b, o, none⟩ = some (.bool false) := fun X => keepc ((hSi X.val).1 X.mem) hc.out.1.1
  have s2 : ∀ X : InS S, X.val.cell? ⟨b, o + 1, none⟩ = some (.string ⟨(Lib.itoa x).toArray⟩) := fun X => keepc ((hSi X.val).1 X.mem) hc.out.1.2.1
  have s3 : ∀ X : InS S, X.val.cell? ⟨b, o + 2, none⟩ = some (.slice A0 0 c0) := fun X => keepc ((hSi X.val).1 X.mem) hc.out.1.2.2
  have s4 : ∀ X : InS S, X.val.cell? ⟨b, o + 3, none⟩ = some (.bool false) := fun X => keepc ((hSi X.val).1 X.mem) hc.out.2.1
  have s5 : ∀ X : InS S, X.val.cell? ⟨b, o + 4, none⟩ = some (.string ⟨(Lib.itoa y).toArray⟩) := fun X => keepc ((hSi X.val).1 X.mem) hc.out.2.2.1
  have s6 : ∀ X : InS S, X.val.cell? ⟨b, o + 5, none⟩ = some (.slice A1 0 c1) := fun X => keepc ((hSi X.val).1 X.mem) hc.out.2.2.2
  have hSiH := Lib.hid hSi
  clear hS hSi
  go_enter Tryz.func57, Tryz.ntmps57
  go_upto_region 1 with fail
  rw [← hw1]
  try rw [hs1]
  rw [← hw2]
  replace hw1 := Lib.hid hw1
  replace hw2 := Lib.hid hw2
  replace hs1 := Lib.hid hs1
  go_wp2_with fail
  refine (CI.out).mono ?_
  rintro ev w3 ⟨rfl, hb3⟩
  have hb3w := Lib.hid (hb2.out.trans (hb3.mono hb2.out.size))
  have hR3 := Lib.hid ((hb3.block _ (heap_lt hR2.out)).trans hR2.out)
  have hS0 := Lib.hid (show S w3.drew from (hSiH.out _).2 hb3w.out.drew)
  have hne : Nonempty (InS S) := ⟨⟨w3.drew, hS0.out⟩⟩
  clear hb3 p0 p1 p2 CI
  go_upto_region 2 with fail
  refine wp_region_mix S [0, 1, 2, 3, 5, 6, 7, 8] [.mem [0, 1, 2, 3, 5, 6, 7, 8], .keep 4, .keep 9, .pure [10], .last 11] (by kernel_rfl) (by kernel_rfl) hS0.out ?_
  simp only [pick, List.getD_cons_zero, List.getD_cons_succ, wpMix]
  repeat (go_big_quiet_step (fail))
  refine wpQuiet_nil ?_
  clear s1 s2 s3 s4 s5 s6
  have hbd := Lib.hid (show Below w.heap.size w w3.drew from hb3w.out.drew)
  have hRd := Lib.hid (show w3.drew.heap[w.heap.size + 1]? = some (.cells #[.int .i64 0, .int .i64 0] 36 (0, 0)) from hR3.out)
  go_wp2_with (go_at_call 56; (with_reducible refine (num_ok rb x hxH.out c0 A0 _ (hrH.out.below hbd.out) (heH.out.below hbd.out) (htabH.out.keep hbd.out hgBH.out)).mono ?_); rintro ev w4 ⟨rfl, hb4⟩)
  have hb4w := Lib.hid (hbd.out.trans (hb4.mono hbd.out.size))
  have hR4 := Lib.hid ((hb4.block _ (heap_lt hRd.out)).trans hRd.out)
  clear hb4
  refine ⟨(hSiH.out _).2 hb4w.out, ?_⟩
  go_wp2_with (go_at_call 56; (with_reducible refine (num_ok rb y hyH.out c1 A1 _ (hrH.out.below hb4w.out) (heH.out.below hb4w.out) (htabH.out.keep hb4w.out hgBH.out)).mono ?_); rintro ev w5 ⟨rfl, hb5⟩)
  have hb5w := Lib.hid (hb4w.out.trans (hb5.mono hb4w.out.size))
  have hR5 := Lib.hid ((hb5.block _ (heap_lt hR4.out)).trans hR4.out)
  clear hb5
  refine ⟨(hSiH.out _).2 hb5w.out, ?_⟩
  repeat (go_big_quiet_step (fail))
  refine wpQuiet_nil ?_
  obtain ⟨e0, e1, esh, efz⟩ := two_facts hR5.out
  go_wp2_with fail
  simp only [stepPost]
  go_wp2_with fail
  (try simp only [Exit.inBlock, Exit.then])
  refine bodyPost_ret (results_cell_row rfl _ _ (w.heap.size + 1) 36 #[.int .i64 x, .int .i64 y] (0, 0) _ rfl (set2 hR5.out) Tryz.underlying36 rfl (by kernel_rfl)) rfl ?_
  exact ⟨rfl, (hb5w.out.setCell (Nat.le_succ _) _).setCell (Nat.le_succ _) _⟩
end Go.Proofs.YtbiioaggilaebaaGreatDoor.Pa
set_option linter.unusedVariables false
set_option linter.unusedSimpArgs false
namespace Go.Proofs.YtbiioaggilaebaaGreatDoor.Pa
open Go Go.RowKit Go.Proofs.YtbiioaggilaebaaGreatDoorW.PrintWords Go.Proofs.YtbiioaggilaebaaGreatDoor.B Go.Proofs.YtbiioaggilaebaaGreatDoor.Tm Go.Proofs.YtbiioaggilaebaaGreatDoor.Wi
def undoB : ByteArray := ⟨#[117, 110, 100, 111]⟩
def QAt (W : World) (q : Nat) (v : Value) : Prop := W.heap[q]? = some (.cells #[.string undoB, v, .slice none 0 0] 25 (0, 0))
def dp (deps : List ByteArray) (a : Int) : List ByteArray := if 0 ≤ a then [deps.getD a.toNat ByteArray.empty] else []
theorem srow_ne {base : Nat} {w : World} {v : Value} {l : List ByteArray} {q : Nat} {u : Value} (h : StrRow base w v l) (hq : QAt w q u) : some q ≠ v.ownBlock := by
  intro e
  rcases h.2 with ⟨rfl, _⟩ | ⟨g, cap, cur, rfl, _, e3, _⟩
  · cases e
  · cases e
    unfold QAt at hq
    rw [hq] at e3
    cases e3
theorem srow_keep {base : Nat} {w w' : World} {v : Value} {l : List ByteArray} (h : StrRow base w v l) (hk : ∀ b, v.ownBlock = some b → w'.heap[b]? = w.heap[b]?) : StrRow base w' v l := by
  obtain ⟨k1, k2⟩ := h
  refine ⟨k1, ?_⟩
  rcases k2 with k2 | ⟨g, cap, cur, rfl, e2, e3, e4⟩
  · exact .inl k2
  · exact .inr ⟨g, cap, cur, rfl, e2, (hk g rfl).trans e3, e4⟩
def Coll (base q : Nat) (l : List ByteArray) (w : World) (e : Ending) (w' : World) : Prop :=
  e = .returned (.tuple #[]) ∧ ∃ v, QAt w' q v ∧ StrRow base w' v l ∧ Below base w w'
set_option maxRecDepth 100000 in
set_option maxHeartbeats 8000000 in
theorem collect_c (rb ri q g base : Nat) (a : Int) (note : ByteArray) (D : Option Addr) (dc : Nat) (deps : List ByteArray) (A : Option Addr) (no ac : Nat) (v : Value) (l : List ByteArray) (w : World)
    (hr : w.cell? ⟨rb, ri, none⟩ = some (.int .i64 a)) (hrb : rb < base) (ha : a < deps.length) (hQ : QAt w q v) (hq : base ≤ q) (hP : PatAt w g note D deps.length dc A no ac) (hg : g < base)
    (hT : TxAt w D dc deps) (hD : ∀ ad, D = some ad → 0 < deps.length → ad.block < base) (hrow : StrRow base w v l) (hl : l.length ≤ 100000) (hbase : base ≤ w.heap.size) :
    Calls Tryz.prog 31 #[.pointer (some ⟨rb, ri, none⟩), .pointer (some ⟨q, 0, none⟩), .pointer (some ⟨g, 0, none⟩)] w (Coll base q (l ++ dp deps a) w) := by
  obtain ⟨nd, hnd⟩ : ∃ nd, nd = deps.length := ⟨_, rfl⟩
  obtain ⟨nl, hnl⟩ : ∃ nl, nl = l.length := ⟨_, rfl⟩
  rw [← hnd] at ha hP
  rw [← hnl] at hl
  have hQH := Lib.hid hQ
  have hPH := Lib.hid hP
  have hrowH := Lib.hid hrow
  have hndH := Lib.hid hnd
  have hnlH := Lib.hid hnl
  have hTH := Lib.hid hT
  have hDH := Lib.hid hD
  have hrH := Lib.hid hr
  by_cases h0 : 0 ≤ a
  · obtain ⟨k, rfl⟩ : ∃ k : Nat, a = k := ⟨a.toNat, by omega⟩
    have hkn : k < nd := by omega
    have hki : (k : Int) < (nd : Int) := by omega
    obtain ⟨d, hd⟩ : ∃ d, d = deps.getD k ByteArray.empty := ⟨_, rfl⟩
    have hdp := Lib.hid (show l ++ dp deps (k : Int) = l ++ [d] by unfold dp; rw [if_pos h0, hd]; rfl)
    obtain ⟨Db, Do, rfl, hcell⟩ := str_cell hT.1 k (by rw [← hndH.out]; exact hkn)
    rw [← hd] at hcell
    replace hd := Lib.hid hd
    have hDb := Lib.hid (hD _ rfl (by have := hndH.out; omega))
    rw [hdp.out]
    obtain ⟨q0, q1, q2, _, _⟩ := blk3' hQH.out
    obtain ⟨p0, p1, p2, _, _⟩ := blk3' hPH.out
    have hown := Lib.hid (show ∀ b, b < base → some b ≠ v.ownBlock from fun b hb e => by have := (hrowH.out.lt b e.symm).1; omega)
    have hqo := Lib.hid (srow_ne hrow hQ)
    obtain ⟨S, hS⟩ : ∃ S : World → Prop, S = fun W => ∀ b, b < w.heap.size → some b ≠ v.ownBlock → W.heap[b]? = w.heap[b]? := ⟨_, rfl⟩
    have hSi : ∀ W, S W ↔ ∀ b, b < w.heap.size → some b ≠ v.ownBlock → W.heap[b]? = w.heap[b]? := fun W => by rw [hS]
    have sc : ∀ (X : InS S) (b i : Nat) (u : Value), some b ≠ v.ownBlock → w.cell? ⟨b, i, none⟩ = some u → X.val.cell? ⟨b, i, none⟩ = some u := fun X b i u hb h => (World.cell?_of_block (a := ⟨b, i, none⟩) ((hSi X.val).1 X.mem b (World.block_lt_of_cell? w _ h) hb)).trans h
    have s0 : ∀ X : InS S, X.val.cell? ⟨q, 1, none⟩ = some v := fun X => sc X _ _ _ hqo.out q1
    have s1 : ∀ X : InS S, X.val.cell? ⟨g, 1, none⟩ = some (.slice (some ⟨Db, Do, none⟩) nd dc) := fun X => sc X _ _ _ (hown.out _ hg) p1
    have s2 : ∀ X : InS S, X.val.cell? ⟨rb, ri, none⟩ = some (.int .i64 k) := fun X => sc X _ _ _ (hown.out _ hrb) hr
    have s3 : ∀ X : InS S, X.val.cell? ⟨Db, Do + k, none⟩ = some (.string d) := fun X => sc X _ _ _ (hown.out _ hDb.out) hcell
    have hSiH := Lib.hid hSi
    have hS0 := Lib.hid (show S w.drew from (hSi _).2 (fun _ _ _ => rfl))
    have hne : Nonempty (InS S) := ⟨⟨w.drew, hS0.out⟩⟩
    clear hS hSi sc hQ hP hrow hT hD hnd hnl hcell q0 q1 q2 p0 p1 p2
    go_enter Tryz.func31, Tryz.ntmps31
    go_upto_region 1 with fail
    clear hr
    refine wp_region_mix S [0, 1, 2, 3, 4, 5, 6, 7, 8, 9] [.mem [0, 1, 2, 3, 4, 5, 6, 7, 8, 9], .keep 10, .keep 11, .pure [12], .last 13] (by kernel_rfl) (by kernel_rfl) hS0.out ?_
    simp only [pick, List.getD_cons_zero, List.getD_cons_succ, wpMix]
    repeat (go_big_quiet_step (fail))
    refine wpQuiet_nil ?_
    clear s0 s1 s2 s3
    obtain ⟨wd, hwd⟩ : ∃ wd, wd = w.drew := ⟨_, rfl⟩
    have yd := Lib.hid (show ∀ b : Nat, wd.heap[b]? = w.heap[b]? from fun b => by rw [hwd]; rfl)
    have zd := Lib.hid (show wd.heap.size = w.heap.size by rw [hwd]; rfl)
    have bd := Lib.hid (show Below base w wd by rw [hwd]; exact (Below.refl _ _).drew)
    rw [← hwd]
    replace hwd := Lib.hid hwd
    go_wp2_with fail
    refine ⟨(hSiH.out _).2 (fun b hb _ => (heap_alloc_lt _ _ _ (by rw [zd.out]; exact hb)).trans (yd.out b)), ?_⟩
    have hrowd := Lib.hid (srow_keep (w' := wd) hrowH.out (fun b _ => yd.out b))
    have hbd := Lib.hid (show base ≤ wd.heap.size by rw [zd.out]; exact hbase)
    go_wp2_with (at_builtin; refine str_app (by rfl) _ _ _ (by rfl) Tryz.underlying22 (by rfl) nl 1 (by rfl) hrowd.out hnlH.out.symm (by omega) hbd.out ?_; intro g7 cap7 w7 hrow7 hgrew7)
    have hrow7H := Lib.hid hrow7
    have hgrew7H := Lib.hid hgrew7
    have hQ7 := Lib.hid (hgrew7.heap ((yd.out q).trans hQH.out) hqo.out)
    clear hrow7 hgrew7
    refine ⟨(hSiH.out _).2 (fun b hb hb' => (hgrew7H.out.2.2.2.2 b (by rw [zd.out]; exact hb) hb').trans (yd.out b)), ?_⟩
    obtain ⟨e0, e1, e2, esh, efz⟩ := blk3' hQ7.out
    repeat (go_big_quiet_step (fail))
    refine wpQuiet_nil ?_
    go_wp2_with fail
    simp only [stepPost]
    go_wp2_with fail
    go_end0
    have hq7 := srow_ne hrow7H.out hQ7.out
    refine ⟨rfl, _, heap_set _ _ _ _ _ _ _ hQ7.out, srow_keep hrow7H.out (fun b hb => heap_set_ne _ _ _ _ (fun e => hq7 (by subst e; exact hb.symm))), (hgrew7H.out.below bd.out hbd.out (fun k hk => (hrowH.out.lt k hk).1)).setCell hq _⟩
  · have hdp := Lib.hid (show l ++ dp deps a = l by unfold dp; rw [if_neg h0, List.append_nil])
    rw [hdp.out]
    clear hQ hP hrow hT hD hnd hnl
    go_enter Tryz.func31, Tryz.ntmps31
    go_wp2_with fail
    go_end0
    exact ⟨rfl, v, hQH.out, hrowH.out, Below.refl _ _⟩
end Go.Proofs.YtbiioaggilaebaaGreatDoor.Pa
