/- What LawPatchInverse lean on, part n of 29: the texts DigP, TmS, LinM, RefQ, DigR, TmD. -/
import Derived.Test.YtbiioaggilaebaaGreatDoorTX0
import Derived.Test.YtbiioaggilaebaaGreatDoorTXb
import Derived.Test.YtbiioaggilaebaaGreatDoorTXc
import Derived.Test.YtbiioaggilaebaaGreatDoorTXd
import Derived.Test.YtbiioaggilaebaaGreatDoorTXf
import Derived.Test.YtbiioaggilaebaaGreatDoorTXk
import Derived.Test.YtbiioaggilaebaaGreatDoorTXl
import Derived.Test.YtbiioaggilaebaaGreatDoorTXm
import Derived.Lib.SlTrimSet
import Derived.WalkKit
import Derived.WalkSpells
import Derived.WalkLawsBesides
import Derived.Shelf.Strings.SlTrimAscii
import Derived.StillTailTactics
import Derived.IntWalk
import Derived.Deep.RegionHeld3
set_option linter.all false
set_option maxRecDepth 100000
set_option maxHeartbeats 16000000
namespace Go.Proofs.YtbiioaggilaebaaGreatDoor.Dig
open Go Go.RowKit YtbiioaggilaebaaGreatDoorW.PrintWords Sha
open Lin (bs bs_data bs_of bs_size size_list wrap_at)
def dv (c : UInt8) : Option Nat := if 48 <= c.toNat /\ c.toNat <= 57 then some (c.toNat - 48) else if 97 <= c.toNat /\ c.toNat <= 102 then some (c.toNat - 87) else none
theorem dv_lt {c : UInt8} {n : Nat} (h : dv c = some n) : n < 16 := by
 unfold dv at h
 split at h
 . injection h with h; omega
 . split at h
   . injection h with h; omega
   . cases h
def pair (a b : UInt8) : Option UInt8 := match dv a, dv b with
 | some x, some y => some (UInt8.ofNat (16 * x + y))
 | _, _ => none
def rawL : List UInt8 -> Option (List UInt8)
 | [] => some []
 | [_] => none
 | a :: b :: l => match pair a b, rawL l with
  | some c, some r => some (c :: r)
  | _, _ => none
theorem rawL_len : ∀ (l : List UInt8) (r : List UInt8), rawL l = some r -> l.length = 2 * r.length
 | [], r, h => by cases h; rfl
 | [_], r, h => by cases h
 | a :: b :: l, r, h => by
  unfold rawL at h
  split at h
  . rename_i c r' h1 h2
    cases h
    have := rawL_len l _ h2
    simp only [List.length_cons]
    omega
  . cases h
theorem dv_dig (n : Nat) (h : n < 16) : dv (dig n) = some n := by
 have : ∀ n, n < 16 -> dv (dig n) = some n := by decide
 exact this n h
theorem rawL_hexL (l : List UInt8) : rawL (hexL l) = some l := by
 induction l with
 | nil => rfl
 | cons c l ih =>
  have e : hexL (c :: l) = dig (c.toNat / 16) :: dig (c.toNat % 16) :: hexL l := by simp [hexL, List.flatMap_cons]
  have hc := c.toNat_lt
  rw [e]
  unfold rawL
  unfold pair
  rw [dv_dig _ (by omega), dv_dig _ (by omega), ih]
  simp only []
  rw [show 16 * (c.toNat / 16) + c.toNat % 16 = c.toNat from by omega]
  simp
def allD (l : List UInt8) : Bool := l.all fun c => (dv c).isSome
theorem rawL_some {l : List UInt8} (h : allD l = true) (h2 : l.length % 2 = 0) : ∃ r, rawL l = some r := by
 match l, h, h2 with
 | [], _, _ => exact ⟨[], rfl⟩
 | [_], _, h2 => simp at h2
 | a :: b :: l, h, h2 =>
  unfold allD at h
  simp only [List.all_cons, Bool.and_eq_true] at h
  obtain ⟨ha, hb, hl⟩ := h
  obtain ⟨r, hr⟩ := rawL_some (l := l) hl (by simp only [List.length_cons] at h2; omega)
  obtain ⟨x, hx⟩ := Option.isSome_iff_exists.1 ha
  obtain ⟨y, hy⟩ := Option.isSome_iff_exists.1 hb
  exact ⟨_, by unfold rawL; unfold pair; rw [hx, hy, hr]⟩
theorem rawL_all : ∀ {l r : List UInt8}, rawL l = some r -> allD l = true
 | [], _, _ => rfl
 | [_], _, h => by cases h
 | a :: b :: l, r, h => by
  unfold rawL at h
  split at h
  . rename_i c r' h1 h2
    have ih := rawL_all h2
    unfold pair at h1
    split at h1
    . rename_i x y hx hy
      unfold allD at ih ⊢
      rw [List.all_cons, List.all_cons, hx, hy, ih]
      rfl
    . cases h1
  . cases h
theorem rawL_even {l r : List UInt8} (h : rawL l = some r) : l.length % 2 = 0 := by have := rawL_len l r h; omega
theorem rawL_odd {l : List UInt8} (h : ¬ l.length % 2 = 0) : rawL l = none := by
 cases e : rawL l with
 | none => rfl
 | some r => exact absurd (rawL_even e) h
theorem rawL_notD {l : List UInt8} (h : allD l = false) : rawL l = none := by
 cases e : rawL l with
 | none => rfl
 | some r => rw [rawL_all e] at h; cases h
theorem digit_k (k : Nat) (a : Int) : PRight.tambourref03_digit.f (k + 1) a = PRight.tambourref03_digit.f 1 a := by
 unfold PRight.tambourref03_digit.f
 simp only [PRight.tambourref03_digit.j0]
def dvI (c : UInt8) : Int := match dv c with | some n => (n : Int) | none => -1
theorem dvI_some {c : UInt8} {n : Nat} (h : dv c = some n) : dvI c = n := by unfold dvI; rw [h]
theorem dvI_none {c : UInt8} (h : dv c = none) : dvI c = -1 := by unfold dvI; rw [h]
theorem digit_f (c : UInt8) (k : Nat) : PRight.tambourref03_digit.f (k + 1) (c.toNat : Int) = some (dvI c) := by
 have : ∀ n : Fin 256, PRight.tambourref03_digit.f 1 (n.val : Int) = some (dvI (UInt8.ofFin n)) := by decide +kernel
 rw [digit_k]
 exact this c.toFin
def nums (l : List UInt8) : List Int := l.map fun c => (c.toNat : Int)
theorem strOfNums_nums (l : List UInt8) : strOfNums (nums l) = bs l := by
 unfold strOfNums nums bs
 rw [List.map_map]
 congr 1
 congr 1
 conv => rhs; rw [<- List.map_id l]
 apply List.map_congr_left
 intro c _
 simp
def outR (out : List UInt8) (o : Option (List UInt8)) : ByteArray × Int := match o with
 | some r => (bs (out ++ r), 0)
 | none => (⟨#[]⟩, 4)
def rawR (l : List UInt8) : ByteArray × Int := outR [] (rawL l)
theorem pair_some {a b : UInt8} {x y : Nat} (ha : dv a = some x) (hb : dv b = some y) : pair a b = some (UInt8.ofNat (16 * x + y)) := by unfold pair; rw [ha, hb]
theorem rawL_two (a b : UInt8) (l : List UInt8) : rawL (a :: b :: l) = (match pair a b, rawL l with
 | some c, some r => some (c :: r)
 | _, _ => none) := rfl
theorem rawL_bad {a b : UInt8} {l : List UInt8} (h : pair a b = none) : rawL (a :: b :: l) = none := by rw [rawL_two, h]
theorem rawL_good {a b c : UInt8} {l : List UInt8} (h : pair a b = some c) : rawL (a :: b :: l) = (rawL l).map (c :: ·) := by rw [rawL_two, h]; cases rawL l <;> rfl
theorem outR_step (out : List UInt8) (c : UInt8) (o : Option (List UInt8)) : outR (out ++ [c]) o = outR out (o.map (c :: ·)) := by
 cases o with
 | none => rfl
 | some r => simp [outR, List.append_assoc]
theorem byte_two {x y : Nat} (hx : x < 16) (hy : y < 16) : wrap64 (wrap64 ((x : Int) * 16) + (y : Int)) % 256 = (((UInt8.ofNat (16 * x + y)).toNat : Nat) : Int) := by
 have h1 : wrap64 ((x : Int) * 16) = (x : Int) * 16 := by unfold wrap64; omega
 have h2 : wrap64 ((x : Int) * 16 + (y : Int)) = (x : Int) * 16 + (y : Int) := by unfold wrap64; omega
 rw [h1, h2, UInt8.toNat_ofNat', Nat.mod_eq_of_lt (by omega)]
 omega
theorem drop_two {l : List UInt8} {i : Nat} (h : i + 1 < l.length) : l.drop i = l.getD i 0 :: l.getD (i + 1) 0 :: l.drop (i + 2) := by
 rw [List.drop_eq_getElem_cons (by omega), List.drop_eq_getElem_cons h, List.getD_eq_getElem?_getD, List.getD_eq_getElem?_getD, List.getElem?_eq_getElem h, List.getElem?_eq_getElem (by omega)]
 rfl
theorem raw_l0 (s : ByteArray) (hs : s.size <= 140737488351232) (n : Nat) : ∀ (k i : Nat) (out : List UInt8), i + 2 * n = s.size -> out.length <= i -> 2 * n + 3 <= k ->
 PRight.tambourref03_Raw.l0 k s (nums out) i = some (outR out (rawL (s.data.toList.drop i))) := by
 induction n with
 | zero =>
  intro k i out hi ho hk
  obtain ⟨k, rfl⟩ : ∃ m, k = m + 1 := ⟨k - 1, by omega⟩
  simp only [PRight.tambourref03_Raw.l0]
  rw [if_neg (by omega), List.drop_of_length_le (by rw [size_list]; omega), strOfNums_nums]
  simp [rawL, outR]
 | succ n ih =>
  intro k i out hi ho hk
  obtain ⟨k, rfl⟩ : ∃ m, k = m + 3 := ⟨k - 3, by omega⟩
  have w1 : wrap64 ((i : Int) + 1) = ((i + 1 : Nat) : Int) := by rw [wrap_at (by omega) (by omega)]; omega
  have w2 : wrap64 ((i : Int) + 2) = ((i + 2 : Nat) : Int) := by unfold wrap64; omega
  have hd := drop_two (l := s.data.toList) (i := i) (by rw [size_list]; omega)
  simp only [PRight.tambourref03_Raw.l0]
  rw [if_pos (by omega), if_pos (by omega), Lin.bt_at s i (by omega), digit_f]
  rw [Option.bind_some]
  rw [w1, Lin.bt_at s (i + 1) (by omega), digit_f, hd]
  cases ha : dv (s.data.toList.getD i 0) with
  | none =>
   rw [dvI_none ha, if_pos (by omega)]
   simp only [PRight.tambourref03_Raw.j1, if_true]
   rw [rawL_bad (by unfold pair; rw [ha])]
   rfl
  | some x =>
   have hx := dv_lt ha
   rw [dvI_some ha, if_neg (by omega), if_pos (by omega), if_pos (by omega)]
   rw [Option.bind_some]
   cases hb : dv (s.data.toList.getD (i + 1) 0) with
   | none =>
    rw [dvI_none hb]
    simp only [PRight.tambourref03_Raw.j1]
    rw [if_pos (by decide)]
    rw [rawL_bad (by unfold pair; rw [ha, hb])]
    rfl
   | some y =>
    have hy := dv_lt hb
    rw [dvI_some hb]
    simp only [PRight.tambourref03_Raw.j1]
    rw [if_neg (by simp), if_pos (by omega), if_pos (by omega), Lin.bt_at s i (by omega), digit_f]
    rw [Option.bind_some]
    rw [w1, if_pos (by omega), if_pos (by omega), Lin.bt_at s (i + 1) (by omega), digit_f]
    rw [Option.bind_some]
    rw [dvI_some ha, dvI_some hb]
    rw [if_pos (by unfold nums; rw [List.length_map]; omega), w2]
    have e : nums out ++ [wrap64 (wrap64 ((x : Int) * 16) + (y : Int)) % 256] = nums (out ++ [UInt8.ofNat (16 * x + y)]) := by
     rw [byte_two hx hy]
     unfold nums
     rw [List.map_append]
     rfl
    rw [e, ih (k + 1) (i + 2) _ (by omega) (by rw [List.length_append, List.length_singleton]; omega) (by omega), outR_step, rawL_good (pair_some ha hb)]
theorem raw_f (s : ByteArray) (hs : s.size <= 140737488351232) : PRight.tambourref03_Raw.f (s.size + 3) s = some (rawR s.data.toList) := by
 have h0 := fun h1 h2 => raw_l0 s hs (s.size / 2) (s.size + 3) 0 [] h1 h2 (by omega)
 generalize s.size + 3 = k at *
 unfold PRight.tambourref03_Raw.f rawR
 by_cases h : s.size % 2 = 0
 . rw [if_pos (by omega)]
   exact h0 (by omega) (by simp)
 . rw [if_neg (by omega), rawL_odd (by rw [size_list]; exact h)]
   rfl
def rightL (l : List UInt8) : Bool := decide (l.length = 64) && (rawL l).isSome
theorem rawR_ok (l : List UInt8) : ((rawR l).2 == 0) = (rawL l).isSome := by
 unfold rawR
 cases rawL l <;> rfl
theorem right_f (s : ByteArray) (hs : s.size <= 140737488351232) : PRight.tambourref03_Right.f (s.size + 3) s = some (rightL s.data.toList) := by
 have h0 := raw_f s hs
 generalize s.size + 3 = k at *
 unfold PRight.tambourref03_Right.f
 rw [h0, Option.bind_some, rawR_ok]
 unfold rightL
 rw [size_list]
 by_cases h : s.size = 64
 . rw [if_pos (by omega), decide_eq_true h, Bool.true_and]
 . rw [if_neg (by omega), decide_eq_false h, Bool.false_and]
theorem rightRef (s : ByteArray) (w : World) (hs : s.size <= 140737488351232) : Calls Tryz.prog 81 #[.string s] w fun e w' => e = .returned (.bool (rightL s.data.toList)) /\ Below w.heap.size w w' :=
 PRight.tambourref03_Right.calls (s.size + 3) s _ w (right_f s hs)
end Go.Proofs.YtbiioaggilaebaaGreatDoor.Dig
namespace Go.Proofs.YtbiioaggilaebaaGreatDoor.Tm
open Go Go.RowKit B Bld
def ReadPost (s : ByteArray) (w : World) (ev : Ending) (w' : World) : Prop :=
 ∃ f c0 c1 c2 er, ev = .returned (.tuple #[.agg #[c0, c1, c2], er]) /\ FK (fun b => w.heap.size <= b /\ b < w'.heap.size) w' f [c0, c1, c2] /\ (f.small = true /\ (er = .nilIface \/ er = errno 5)) /\
  (∀ f', f'.right = true -> f'.depth <= 8 -> s.data.toList = f'.bytes -> er = .nilIface /\ f = f') /\ Below w.heap.size w w'
theorem blk1 {X : World} {b : Nat} {x : Value} {t : TypeId} (h : X.heap[b]? = some (.cells #[x] t (0, 0))) : X.cell? ⟨b, 0, none⟩ = some x := by rw [cell_of h]; rfl
theorem read_c (s : ByteArray) (w : World) (hs : s.size <= 65536) : Calls Tryz.prog 52 #[.string s] w (ReadPost s w) := by
 have hsi : ¬ (65536 : Int) < (s.size : Int) := by omega
 obtain ⟨w0, hw0⟩ : ∃ w0, w0 = w.alloc (.cells #[.bool false, .string ⟨#[]⟩, .slice none 0 0] 74) := ⟨_, rfl⟩
 have hs0 : w0.heap.size = w.heap.size + 1 := by rw [hw0]; simp
 have hr0 : w0.heap[w.heap.size]? = some (.cells #[.bool false, .string ⟨#[]⟩, .slice none 0 0] 74 (0, 0)) := by rw [hw0]; exact heap_alloc_at _ _
 have hb0 : Below w.heap.size w w0 := by rw [hw0]; exact (Below.refl _ _).alloc (Nat.le_refl _) _
 obtain ⟨w1, hw1⟩ : ∃ w1, w1 = w0.alloc (.cells #[.string s] 142) := ⟨_, rfl⟩
 have hs1 : w1.heap.size = w.heap.size + 2 := by rw [hw1]; simp [hs0]
 have hg1 : RdAt w1 (w.heap.size + 1) s := by unfold RdAt; rw [hw1, <- hs0]; exact heap_alloc_at _ _
 have hr1 : w1.heap[w.heap.size]? = some (.cells #[.bool false, .string ⟨#[]⟩, .slice none 0 0] 74 (0, 0)) := by rw [hw1, heap_alloc_lt _ _ _ (heap_lt hr0)]; exact hr0
 have hb1 : Below w.heap.size w w1 := by rw [hw1]; exact hb0.alloc (by omega) _
 have CI := lh (show Calls Tryz.prog 93 #[.pointer (some ⟨w.heap.size + 1, 0, none⟩), .int .i64 0] w1 (ItemPost (w.heap.size + 1) 0 s w1) from item_c _ 8 0 rfl s w1 hg1 hs)
 have hs0H := lh hs0
 replace hs1 := lh hs1
 replace hr1 := lh hr1
 replace hb1 := lh hb1
 clear hs0 hr0 hb0 hg1
 go_enter Tryz.func52, Tryz.ntmps52
 go_upto_region 1 with fail
 rw [<- hw0]
 replace hw0 := lh hw0
 go_upto_region 4 with fail
 rw [hs0H.out, <- hw1]
 replace hw1 := lh hw1
 go_wp2_with fail
 refine (CI.out).mono ?_
 rintro ev w3 ⟨f, x0, x1, x2, ok, r3, rfl, hFK, hg3, hsp3, hT3⟩
 have hb3 := hT3.heap hr1.out (show ¬ w.heap.size = w.heap.size + 1 by omega)
 have hbw := lh (hb1.out.trans (hT3.below (B := w.heap.size) (by rw [hs1.out]; omega) (fun k hk _ => by subst hk; omega)))
 obtain ⟨fb, ft, fl⟩ := f
 have hFK2 := hFK
 unfold FK at hFK2
 obtain ⟨A2, c2, hcs, _⟩ := hFK2
 simp only [List.cons.injEq, and_true] at hcs
 obtain ⟨rfl, rfl, rfl⟩ := hcs
 obtain ⟨nl, hnl⟩ : ∃ nl, nl = fl.length := ⟨_, rfl⟩
 rw [<- hnl] at hFK ⊢
 obtain ⟨w4, hw4⟩ : ∃ w4, w4 = w3.alloc (.cells #[.bool fb, .string ⟨ft.toArray⟩, .slice A2 nl c2] 74) := ⟨_, rfl⟩
 have hx4 : w4.heap[w3.heap.size]? = some (.cells #[.bool fb, .string ⟨ft.toArray⟩, .slice A2 nl c2] 74 (0, 0)) := by rw [hw4]; exact heap_alloc_at _ _
 have hb4 : w4.heap[w.heap.size]? = some (.cells #[.bool false, .string ⟨#[]⟩, .slice none 0 0] 74 (0, 0)) := by rw [hw4, heap_alloc_lt _ _ _ (heap_lt hb3)]; exact hb3
 have hg4 : RdAt w4 (w.heap.size + 1) r3 := by unfold RdAt; rw [hw4, heap_alloc_lt _ _ _ (heap_lt hg3)]; exact hg3
 have hB4 := lh (show Below w.heap.size w w4 by rw [hw4]; exact hbw.out.alloc (Nat.le_of_lt (heap_lt hb3)) _)
 have hF4 : FK (fun b => w1.heap.size <= b /\ b < w3.heap.size) w4 (.mk fb ft fl) [.bool fb, .string ⟨ft.toArray⟩, .slice A2 nl c2] := FK.move (fun b hb => ⟨hb, by rw [hw4]; exact heap_alloc_lt _ _ _ hb.2⟩) _ _ hFK
 have hF4H := lh hF4
 have hs4 := lh (show w3.heap.size < w4.heap.size from heap_lt hx4)
 obtain ⟨y0, y1, y2, _, yz⟩ := blk3 hx4
 obtain ⟨k0, k1, k2, hsh, hfz⟩ := blk3 hb4
 have g4 := blk1 hg4
 replace hnl := lh hnl
 have hb4H := lh hb4
 have hspH := lh hsp3
 have fin : ∀ er, (er = errno 5) -> (ok = false \/ ¬ r3.data.toList = []) -> ReadPost s w (.returned (.tuple #[.agg #[.bool false, .string ⟨#[]⟩, .slice none 0 0], er])) (((w4.setCell ⟨w.heap.size, 0, none⟩ (.bool false)).setCell ⟨w.heap.size, 1, none⟩ (.string ⟨#[]⟩)).setCell ⟨w.heap.size, 2, none⟩ (.slice none 0 0)) := by
  intro er he h
  refine ⟨.mk false [] [], _, _, _, er, rfl, FK.text _ _ ⟨#[]⟩, ⟨rfl, .inr he⟩, fun f' h1 h2 h3 => ?_, ((hB4.out.setCell (Nat.le_refl _) _).setCell (Nat.le_refl _) _).setCell (Nat.le_refl _) _⟩
  obtain ⟨e1, _, e2⟩ := hspH.out.2.2 f' [] h1 (by omega) (by rw [h3, List.append_nil])
  rcases h with h | h
  . rw [h] at e1; cases e1
  . exact absurd e2 h
 have finH := lh fin
 clear fin hx4 hb4 hg4 hF4 hFK hg3 hsp3 hT3 hb3
 cases ok with
 | false =>
  go_upto_region 5 with fail
  rw [<- hw4]
  replace hw4 := lh hw4
  go_wp2_with fail
  (try simp only [Exit.inBlock, Exit.then])
  refine bodyPost_ret (results_cell_tmp rfl _ _ w.heap.size 74 #[.bool false, .string ⟨#[]⟩, .slice none 0 0] (0, 0) _ rfl (set3 hb4H.out) Tryz.underlying74 rfl (by kernel_rfl) _ rfl) rfl ?_
  exact finH.out _ rfl (.inl (by first | trivial | rfl))
 | true =>
  by_cases hr : r3.data.toList = []
  . have hr1 : r3.toList = [] := by rw [ByteArray.toList_eq]; exact hr
    replace hr := lh hr
    go_upto_region 5 with fail
    rw [<- hw4]
    replace hw4 := lh hw4
    go_wp2_with fail
    (try simp only [Exit.inBlock, Exit.then])
    refine bodyPost_ret (results_cell_tmp rfl _ _ w.heap.size 74 #[.bool fb, .string ⟨ft.toArray⟩, .slice A2 nl c2] (0, 0) _ rfl (set3 hb4H.out) Tryz.underlying74 rfl (by kernel_rfl) _ rfl) rfl ?_
    refine ⟨.mk fb ft fl, _, _, _, .nilIface, rfl, ?_, ⟨hspH.out.1.2 rfl, .inl rfl⟩, fun f' h1 h2 h3 => ?_, ((hB4.out.setCell (Nat.le_refl _) _).setCell (Nat.le_refl _) _).setCell (Nat.le_refl _) _⟩
    . refine FK.move (fun b hb => ⟨⟨by have := hs1.out; omega, by rw [size_set, size_set, size_set]; have := hs4.out; omega⟩, set3_ne (by have := hs1.out; omega) _ _ _⟩) _ _ hF4H.out
    . exact ⟨rfl, (hspH.out.2.2 f' [] h1 (by omega) (by rw [h3, List.append_nil])).2.1⟩
  . have hr1 : ¬ r3.toList = [] := by rw [ByteArray.toList_eq]; exact hr
    have hr2 : r3.toList.isEmpty = false := by simpa using hr1
    replace hr := lh hr
    go_upto_region 5 with fail
    rw [<- hw4]
    replace hw4 := lh hw4
    go_wp2_with fail
    (try simp only [Exit.inBlock, Exit.then])
    refine bodyPost_ret (results_cell_tmp rfl _ _ w.heap.size 74 #[.bool false, .string ⟨#[]⟩, .slice none 0 0] (0, 0) _ rfl (set3 hb4H.out) Tryz.underlying74 rfl (by kernel_rfl) _ rfl) rfl ?_
    exact finH.out _ rfl (.inr hr.out)
end Go.Proofs.YtbiioaggilaebaaGreatDoor.Tm
namespace Go.Proofs.YtbiioaggilaebaaGreatDoor.Lin
open Go Go.RowKit B YtbiioaggilaebaaGreatDoorW.PrintWords
def mrk (l : List UInt8) : Bool := (List.replicate 7 62).isPrefixOf l || (List.replicate 7 61).isPrefixOf l || (List.replicate 7 60).isPrefixOf l
theorem marker_short (s : ByteArray) (h : s.size < 7) : PMarker.tambourref01_Marker.f 9 s = some (mrk s.data.toList) := by
 unfold PMarker.tambourref01_Marker.f
 rw [if_pos (by omega)]
 simp only [PMarker.tambourref01_Marker.j0, if_true]
 have hl : s.data.toList.length < 7 := by rw [size_list]; exact h
 generalize s.data.toList = l at hl
 congr 1
 symm
 unfold mrk
 have hp : ∀ c : UInt8, (List.replicate 7 c).isPrefixOf l = false := fun c => by
  rw [Bool.eq_false_iff]
  intro hc
  have := (List.isPrefixOf_iff_prefix.1 hc).length_le
  simp at this
  omega
 simp only [hp]; rfl
theorem long_form {l : List UInt8} (h : 7 <= l.length) : ∃ a b c d e f g r, l = a :: b :: c :: d :: e :: f :: g :: r := by
 match l, h with
 | a :: b :: c :: d :: e :: f :: g :: r, _ => exact ⟨a, b, c, d, e, f, g, r, rfl⟩
theorem byte_eq (a b : UInt8) : ((a.toNat : Int) = b.toNat) ↔ a = b := by
 constructor
 . intro h; apply UInt8.toNat_inj.1; omega
 . rintro rfl; rfl
theorem byte_is (a : UInt8) (n : Nat) (h : n < 256) : ((a.toNat : Int) = (n : Int)) ↔ a = UInt8.ofNat n := by
 rw [<- byte_eq a (UInt8.ofNat n), UInt8.toNat_ofNat', Nat.mod_eq_of_lt h]
theorem marker_long (s : ByteArray) (h : 7 <= s.size) : PMarker.tambourref01_Marker.f 9 s = some (mrk s.data.toList) := by
 obtain ⟨a, b, c, d, e, f, g, r, hl⟩ := long_form (l := s.data.toList) (by rw [size_list]; exact h)
 have b0 : bt s 0 = a.toNat := by have := bt_at s 0 (by omega); rw [hl] at this; exact this
 have b1 : bt s 1 = b.toNat := by have := bt_at s 1 (by omega); rw [hl] at this; exact this
 have b2 : bt s 2 = c.toNat := by have := bt_at s 2 (by omega); rw [hl] at this; exact this
 have b3 : bt s 3 = d.toNat := by have := bt_at s 3 (by omega); rw [hl] at this; exact this
 have b4 : bt s 4 = e.toNat := by have := bt_at s 4 (by omega); rw [hl] at this; exact this
 have b5 : bt s 5 = f.toNat := by have := bt_at s 5 (by omega); rw [hl] at this; exact this
 have b6 : bt s 6 = g.toNat := by have := bt_at s 6 (by omega); rw [hl] at this; exact this
 have L : ∀ k, PMarker.tambourref01_Marker.l0 (k + 7) s 1 = some (decide (b = a /\ c = a /\ d = a /\ e = a /\ f = a /\ g = a)) := by
  intro k
  have hz : (0 : Int) < s.size := by omega
  have q1 : (1 : Int) < s.size := by omega
  have q2 : (2 : Int) < s.size := by omega
  have q3 : (3 : Int) < s.size := by omega
  have q4 : (4 : Int) < s.size := by omega
  have q5 : (5 : Int) < s.size := by omega
  have q6 : (6 : Int) < s.size := by omega
  simp only [PMarker.tambourref01_Marker.l0]
  have w1 : wrap64 (1 + 1) = 2 := by rw [wrap_at (by omega) (by omega)]; rfl
  have w2 : wrap64 (2 + 1) = 3 := by rw [wrap_at (by omega) (by omega)]; rfl
  have w3 : wrap64 (3 + 1) = 4 := by rw [wrap_at (by omega) (by omega)]; rfl
  have w4 : wrap64 (4 + 1) = 5 := by rw [wrap_at (by omega) (by omega)]; rfl
  have w5 : wrap64 (5 + 1) = 6 := by rw [wrap_at (by omega) (by omega)]; rfl
  have w6 : wrap64 (6 + 1) = 7 := by rw [wrap_at (by omega) (by omega)]; rfl
  simp only [w1, w2, w3, w4, w5, w6, b0, b1, b2, b3, b4, b5, b6, byte_eq, hz, q1, q2, q3, q4, q5, q6, if_true,
   show ((1 : Int) < 7) = True from by simp, show ((2 : Int) < 7) = True from by simp, show ((3 : Int) < 7) = True from by simp, show ((4 : Int) < 7) = True from by simp, show ((5 : Int) < 7) = True from by simp, show ((6 : Int) < 7) = True from by simp, show ((7 : Int) < 7) = False from by simp,
   show ((0 : Int) <= 1) = True from by simp, show ((0 : Int) <= 2) = True from by simp, show ((0 : Int) <= 3) = True from by simp, show ((0 : Int) <= 4) = True from by simp, show ((0 : Int) <= 5) = True from by simp, show ((0 : Int) <= 6) = True from by simp, if_false]
  by_cases e1 : b = a <;> by_cases e2 : c = a <;> by_cases e3 : d = a <;> by_cases e4 : e = a <;> by_cases e5 : f = a <;> by_cases e6 : g = a <;> simp [e1, e2, e3, e4, e5, e6]
 unfold PMarker.tambourref01_Marker.f
 rw [if_neg (by omega), if_pos (by omega), b0, hl]
 simp only [PMarker.tambourref01_Marker.j0, Bool.false_eq_true, if_false, L]
 have s1 : ((a.toNat : Int) = 62) ↔ a = 62 := byte_is a 62 (by omega)
 have s2 : ((a.toNat : Int) = 61) ↔ a = 61 := byte_is a 61 (by omega)
 have s3 : ((a.toNat : Int) = 60) ↔ a = 60 := byte_is a 60 (by omega)
 have s3' : ((a.toNat : Int) != 60) = !decide (a = 60) := by
  by_cases h : a = 60
  . rw [decide_eq_true h, bne_eq_false_iff_eq.2 (s3.2 h)]; rfl
  . rw [decide_eq_false h, bne_iff_ne.2 (fun e => h (s3.1 e))]; rfl
 simp only [s1, s2, s3']
 have pf : ∀ z : UInt8, (List.replicate 7 z).isPrefixOf (a :: b :: c :: d :: e :: f :: g :: r) = decide (a = z /\ b = z /\ c = z /\ d = z /\ e = z /\ f = z /\ g = z) := by
  intro z
  simp only [List.replicate, List.isPrefixOf]
  rw [Bool.eq_iff_iff]
  simp only [Bool.and_eq_true, beq_iff_eq, decide_eq_true_eq, and_true]
  constructor
  . rintro ⟨h1, h2, h3, h4, h5, h6, h7⟩; exact ⟨h1.symm, h2.symm, h3.symm, h4.symm, h5.symm, h6.symm, h7.symm⟩
  . rintro ⟨h1, h2, h3, h4, h5, h6, h7⟩; exact ⟨h1.symm, h2.symm, h3.symm, h4.symm, h5.symm, h6.symm, h7.symm⟩
 unfold mrk
 simp only [pf]
 by_cases h1 : a = 62
 . subst h1; simp
 . by_cases h2 : a = 61
   . subst h2; simp
   . by_cases h3 : a = 60
     . subst h3; simp
     . simp [h1, h2, h3]
theorem marker_f (s : ByteArray) : PMarker.tambourref01_Marker.f 9 s = some (mrk s.data.toList) := by
 by_cases h : s.size < 7
 . exact marker_short s h
 . exact marker_long s (by omega)
theorem Marker_any (s : ByteArray) (w : World) : Calls Tryz.prog 117 #[.string s] w fun e w' => e = .returned (.bool (mrk s.data.toList)) /\ w' = w := by
 have C : ∀ p : ByteArray, Calls Tryz.prog 132 #[.string s, .string p] w fun e w' => e = .returned (.bool (p.data.toList.isPrefixOf s.data.toList)) /\ w' = w := fun p => Tryz.strings_HasPrefix s p w
 have e1 : (⟨#[62, 62, 62, 62, 62, 62, 62]⟩ : ByteArray).data.toList = List.replicate 7 62 := rfl
 have e2 : (⟨#[61, 61, 61, 61, 61, 61, 61]⟩ : ByteArray).data.toList = List.replicate 7 61 := rfl
 have e3 : (⟨#[60, 60, 60, 60, 60, 60, 60]⟩ : ByteArray).data.toList = List.replicate 7 60 := rfl
 have C1 := C ⟨#[62, 62, 62, 62, 62, 62, 62]⟩
 have C2 := C ⟨#[61, 61, 61, 61, 61, 61, 61]⟩
 have C3 := C ⟨#[60, 60, 60, 60, 60, 60, 60]⟩
 rw [e1] at C1
 rw [e2] at C2
 rw [e3] at C3
 have hm : mrk s.data.toList = ((List.replicate 7 62).isPrefixOf s.data.toList || (List.replicate 7 61).isPrefixOf s.data.toList || (List.replicate 7 60).isPrefixOf s.data.toList) := rfl
 generalize (List.replicate 7 (62 : UInt8)).isPrefixOf s.data.toList = p1 at *
 generalize (List.replicate 7 (61 : UInt8)).isPrefixOf s.data.toList = p2 at *
 generalize (List.replicate 7 (60 : UInt8)).isPrefixOf s.data.toList = p3 at *
 rw [hm]
 clear hm C e1 e2 e3
 replace C1 := lh C1
 replace C2 := lh C2
 replace C3 := lh C3
 cases p1
 . cases p2
   . cases p3
     all_goals
      go_enter Tryz.func117, Tryz.ntmps117
      go_wp2_with fail
      refine (C1.out).mono ?_; rintro e w' ⟨rfl, rfl⟩
      go_wp2_with fail
      refine (C2.out).mono ?_; rintro e w' ⟨rfl, rfl⟩
      go_wp2_with fail
      refine (C3.out).mono ?_; rintro e w' ⟨rfl, rfl⟩
      go_wp2_with fail
      go_ret
      exact ⟨rfl, rfl⟩
   . go_enter Tryz.func117, Tryz.ntmps117
     go_wp2_with fail
     refine (C1.out).mono ?_; rintro e w' ⟨rfl, rfl⟩
     go_wp2_with fail
     refine (C2.out).mono ?_; rintro e w' ⟨rfl, rfl⟩
     go_wp2_with fail
     go_ret
     exact ⟨rfl, rfl⟩
 . go_enter Tryz.func117, Tryz.ntmps117
   go_wp2_with fail
   refine (C1.out).mono ?_; rintro e w' ⟨rfl, rfl⟩
   go_wp2_with fail
   go_ret
   exact ⟨rfl, rfl⟩
theorem markerRef (s : ByteArray) (w : World) : Calls Tryz.prog 152 #[.string s] w fun e w' => e = .returned (.bool (mrk s.data.toList)) /\ Drawn0 w w' :=
 PMarker.tambourref01_Marker.calls 9 s _ w (marker_f s)
end Go.Proofs.YtbiioaggilaebaaGreatDoor.Lin
namespace Go.Proofs.YtbiioaggilaebaaGreatDoor.Ref
open Go.RowKit B Sha YtbiioaggilaebaaGreatDoorW.PrintLast
noncomputable def schedLoop : Code := ((Tryz.f51.body.map loops).getD []).getD 3 .skip
set_option maxRecDepth 1000000 in
theorem sched_loop (gb cb N i : Nat) (blk : List UInt8) (full : List (BitVec 32)) (W5 W0 : World) (hF0 : full = sched (words blk) 48) (hfl0 : full.length = 64) (hi64 : 64 * i + 64 <= N) (hNl : N < 100200)
 (hbb0 : ∀ j, j < 64 -> W5.cell? ⟨gb, 64 * i + j, none⟩ = some (.int .u8 ((blk.getD j 0).toNat : Int))) (hst0 : Mk W5 W0 (sofar full 0))
 (u0 u1 u2 u3 u4 u6 u7 u11 u12 u13 u14 u15 u16 u17 u18 u19 u20 u21 u22 u23 u24 u25 u26 u27 u28 u29 u30 u31 u32 u33 u34 u35 u36 u37 u38 u39 u40 u41 u42 u43 u44 u45 u46 u47 u48 u49 u50 u51 u52 u53 u54 u55 u56 u57 u58 u59 u60 u61 u62 u63 u64 u65 u66 u67 u68 u69 u70 u71 u72 u73 u74 u75 u76 u77 u78 u79 u80 u81 u82 u83 u84 u85 u86 u87 u88 u89 u90 u91 u92 u93 u94 u95 u96 u97 u98 u99 u100 u101 u102 u103 u104 u105 u106 u107 u108 u109 u110 u111 u112 u113 u114 u115 u116 u117 u118 u119 u120 u121 u122 u123 u124 u125 u126 u127 u128 u129 u130 u131 u132 u133 u134 u135 u136 u137 u138 u139 u140 u141 u142 u143 u144 u145 u146 u147 u148 u149 u150 u151 u152 u153 u154 u155 u156 u157 u158 u159 u160 u161 u162 u163 u164 u165 u166 u167 u168 u169 u170 u171 u172 u173 u174 u175 u176 u177 u178 u179 u180 u181 u182 u183 u184 u185 u186 u187 u188 u189 u190 u191 u192 u193 u194 u195 u196 u197 u198 u199 u200 u201 u202 u203 u204 u205 u206 u207 u208 u209 u210 u211 u212 u213 u214 u215 u216 u217 u218 u219 u220 u221 u222 u223 u224 u225 u226 u227 u228 u229 u230 u231 u232 u233 u234 u235 u236 u237 u238 u239 u240 u241 u242 u243 u244 u245 u246 u247 u248 u249 u250 u251 u252 u253 u254 u255 u256 u257 u258 u259 u260 u261 u262 u263 u264 u265 u266 u267 u268 u269 u270 u271 u272 u273 u274 u275 u276 u277 u278 u279 u280 u281 u282 u283 u284 u285 u286 u287 u288 u289 u290 u291 u292 : Value) (Q0 : Exit -> Act -> World -> Prop)
 (hexit : ∀ (c11 c12 c13 c58 c59 c60 c61 c62 c63 c64 c65 c66 c67 c68 c69 c70 c71 c72 c73 c74 c75 c76 c77 c78 c79 c80 c81 c82 c83 c84 c85 c86 c87 c88 c89 c90 c91 c92 c93 c94 c95 c96 c97 c98 c99 c100 c101 c102 c103 c104 c105 c106 c107 c108 c109 c110 c111 c112 c113 c114 c115 c116 c117 c118 c119 c120 c121 c122 c123 c124 c125 c126 c127 c128 c129 c130 c131 c132 c133 c134 c135 c136 c137 c138 c139 c140 c141 : Value) (W : World), Mk W5 W full -> Q0 (.exit 6) ⟨List.toArray (u0 :: u1 :: u2 :: u3 :: u4 :: .slice (some ⟨gb, 0, none⟩) N cb :: u6 :: u7 :: .int .i64 (64 * (i : Int)) :: .slice (some ⟨W5.heap.size, 0, none⟩) 64 64 :: .int .i64 ((64 : Nat) : Int) :: c11 :: c12 :: c13 :: u14 :: u15 :: u16 :: u17 :: u18 :: u19 :: u20 :: u21 :: u22 :: u23 :: u24 :: u25 :: u26 :: u27 :: u28 :: u29 :: u30 :: u31 :: u32 :: u33 :: u34 :: u35 :: u36 :: u37 :: u38 :: u39 :: u40 :: u41 :: u42 :: u43 :: u44 :: u45 :: u46 :: u47 :: u48 :: u49 :: u50 :: u51 :: u52 :: u53 :: u54 :: u55 :: u56 :: u57 :: c58 :: c59 :: c60 :: c61 :: c62 :: c63 :: c64 :: c65 :: c66 :: c67 :: c68 :: c69 :: c70 :: c71 :: c72 :: c73 :: c74 :: c75 :: c76 :: c77 :: c78 :: c79 :: c80 :: c81 :: c82 :: c83 :: c84 :: c85 :: c86 :: c87 :: c88 :: c89 :: c90 :: c91 :: c92 :: c93 :: c94 :: c95 :: c96 :: c97 :: c98 :: c99 :: c100 :: c101 :: c102 :: c103 :: c104 :: c105 :: c106 :: c107 :: c108 :: c109 :: c110 :: c111 :: c112 :: c113 :: c114 :: c115 :: c116 :: c117 :: c118 :: c119 :: c120 :: c121 :: c122 :: c123 :: c124 :: c125 :: c126 :: c127 :: c128 :: c129 :: c130 :: c131 :: c132 :: c133 :: c134 :: c135 :: c136 :: c137 :: c138 :: c139 :: c140 :: c141 :: u142 :: u143 :: u144 :: u145 :: u146 :: u147 :: u148 :: u149 :: u150 :: u151 :: u152 :: u153 :: u154 :: u155 :: u156 :: u157 :: u158 :: u159 :: u160 :: u161 :: u162 :: u163 :: u164 :: u165 :: u166 :: u167 :: u168 :: u169 :: u170 :: u171 :: u172 :: u173 :: u174 :: u175 :: u176 :: u177 :: u178 :: u179 :: u180 :: u181 :: u182 :: u183 :: u184 :: u185 :: u186 :: u187 :: u188 :: u189 :: u190 :: u191 :: u192 :: u193 :: u194 :: u195 :: u196 :: u197 :: u198 :: u199 :: u200 :: u201 :: u202 :: u203 :: u204 :: u205 :: u206 :: u207 :: u208 :: u209 :: u210 :: u211 :: u212 :: u213 :: u214 :: u215 :: u216 :: u217 :: u218 :: u219 :: u220 :: u221 :: u222 :: u223 :: u224 :: u225 :: u226 :: u227 :: u228 :: u229 :: u230 :: u231 :: u232 :: u233 :: u234 :: u235 :: u236 :: u237 :: u238 :: u239 :: u240 :: u241 :: u242 :: u243 :: u244 :: u245 :: u246 :: u247 :: u248 :: u249 :: u250 :: u251 :: u252 :: u253 :: u254 :: u255 :: u256 :: u257 :: u258 :: u259 :: u260 :: u261 :: u262 :: u263 :: u264 :: u265 :: u266 :: u267 :: u268 :: u269 :: u270 :: u271 :: u272 :: u273 :: u274 :: u275 :: u276 :: u277 :: u278 :: u279 :: u280 :: u281 :: u282 :: u283 :: u284 :: u285 :: u286 :: u287 :: u288 :: u289 :: u290 :: u291 :: u292 :: []), []⟩ W) :
 Code.wp Tryz.prog schedLoop Q0 ⟨List.toArray (u0 :: u1 :: u2 :: u3 :: u4 :: .slice (some ⟨gb, 0, none⟩) N cb :: u6 :: u7 :: .int .i64 (64 * (i : Int)) :: .slice (some ⟨W5.heap.size, 0, none⟩) 64 64 :: .int .i64 0 :: u11 :: u12 :: u13 :: u14 :: u15 :: u16 :: u17 :: u18 :: u19 :: u20 :: u21 :: u22 :: u23 :: u24 :: u25 :: u26 :: u27 :: u28 :: u29 :: u30 :: u31 :: u32 :: u33 :: u34 :: u35 :: u36 :: u37 :: u38 :: u39 :: u40 :: u41 :: u42 :: u43 :: u44 :: u45 :: u46 :: u47 :: u48 :: u49 :: u50 :: u51 :: u52 :: u53 :: u54 :: u55 :: u56 :: u57 :: u58 :: u59 :: u60 :: u61 :: u62 :: u63 :: u64 :: u65 :: u66 :: u67 :: u68 :: u69 :: u70 :: u71 :: u72 :: u73 :: u74 :: u75 :: u76 :: u77 :: u78 :: u79 :: u80 :: u81 :: u82 :: u83 :: u84 :: u85 :: u86 :: u87 :: u88 :: u89 :: u90 :: u91 :: u92 :: u93 :: u94 :: u95 :: u96 :: u97 :: u98 :: u99 :: u100 :: u101 :: u102 :: u103 :: u104 :: u105 :: u106 :: u107 :: u108 :: u109 :: u110 :: u111 :: u112 :: u113 :: u114 :: u115 :: u116 :: u117 :: u118 :: u119 :: u120 :: u121 :: u122 :: u123 :: u124 :: u125 :: u126 :: u127 :: u128 :: u129 :: u130 :: u131 :: u132 :: u133 :: u134 :: u135 :: u136 :: u137 :: u138 :: u139 :: u140 :: u141 :: u142 :: u143 :: u144 :: u145 :: u146 :: u147 :: u148 :: u149 :: u150 :: u151 :: u152 :: u153 :: u154 :: u155 :: u156 :: u157 :: u158 :: u159 :: u160 :: u161 :: u162 :: u163 :: u164 :: u165 :: u166 :: u167 :: u168 :: u169 :: u170 :: u171 :: u172 :: u173 :: u174 :: u175 :: u176 :: u177 :: u178 :: u179 :: u180 :: u181 :: u182 :: u183 :: u184 :: u185 :: u186 :: u187 :: u188 :: u189 :: u190 :: u191 :: u192 :: u193 :: u194 :: u195 :: u196 :: u197 :: u198 :: u199 :: u200 :: u201 :: u202 :: u203 :: u204 :: u205 :: u206 :: u207 :: u208 :: u209 :: u210 :: u211 :: u212 :: u213 :: u214 :: u215 :: u216 :: u217 :: u218 :: u219 :: u220 :: u221 :: u222 :: u223 :: u224 :: u225 :: u226 :: u227 :: u228 :: u229 :: u230 :: u231 :: u232 :: u233 :: u234 :: u235 :: u236 :: u237 :: u238 :: u239 :: u240 :: u241 :: u242 :: u243 :: u244 :: u245 :: u246 :: u247 :: u248 :: u249 :: u250 :: u251 :: u252 :: u253 :: u254 :: u255 :: u256 :: u257 :: u258 :: u259 :: u260 :: u261 :: u262 :: u263 :: u264 :: u265 :: u266 :: u267 :: u268 :: u269 :: u270 :: u271 :: u272 :: u273 :: u274 :: u275 :: u276 :: u277 :: u278 :: u279 :: u280 :: u281 :: u282 :: u283 :: u284 :: u285 :: u286 :: u287 :: u288 :: u289 :: u290 :: u291 :: u292 :: []), []⟩ W0 := by
 unfold schedLoop
 conv => arg 2; whnf
 have hF := lh hF0
 have hfl := lh hfl0
 have hbb := lh hbb0
 have hst := lh hst0
 have hexH := lh hexit
 have hili : 64 * (i : Int) < (N : Int) := by omega
 clear hF0 hfl0 hbb0 hst0 hexit
 go_loopg [10] 64 (fun g i' W => ∃ t : Nat, g = 64 - t /\ t <= 64 /\ i' = .int .i64 t /\ Mk W5 W (sofar full t))
 case atStart => exact ⟨0, rfl, by omega, rfl, hst.out⟩
 case round =>
  clear hst
  obtain ⟨t, hg, ht, rfl, hm⟩ := hrel
  subst hg
  by_cases htl : t < 64
  . have hsl' := sofar_length full t hfl.out (by omega)
    by_cases h16 : t < 16
    . have hi16 : (t : Int) < 16 := by omega
      have hi64 : (t : Int) < 64 := by omega
      have hb0 := mk_cell hm (hbb.out (4 * t) (by omega))
      have hb1 := mk_cell hm (hbb.out (4 * t + 1) (by omega))
      have hb2 := mk_cell hm (hbb.out (4 * t + 2) (by omega))
      have hb3 := mk_cell hm (hbb.out (4 * t + 3) (by omega))
      rw [show 64 * i + 4 * t = 64 * i + 4 * t from rfl] at hb0
      rw [<- Nat.add_assoc] at hb1 hb2 hb3
      have hct : wr.cell? ⟨W5.heap.size, t, none⟩ = some (.int .u32 (nv ((sofar full t).getD t 0))) := by rw [cell_of hm.1, ucells_get _ _ (by omega)]
      have hfr := fr_of hm.1
      have hin : 64 * (i : Int) + 4 * (t : Int) + 3 < (N : Int) := by omega
      have hnx := lh (fun v hv => mk_set (v := v) hm t (word blk t) hv)
      have hwd := lh (show full.getD t 0 = word blk t from by rw [hF.out]; exact full_word blk t h16)
      have hsu := lh (sofar_succ full t hfl.out htl)
      clear hm hsl'
      obtain ⟨c0, hc0⟩ : ∃ c, blk.getD (4 * t) 0 = c := ⟨_, rfl⟩
      obtain ⟨c1, hc1⟩ : ∃ c, blk.getD (4 * t + 1) 0 = c := ⟨_, rfl⟩
      obtain ⟨c2, hc2⟩ : ∃ c, blk.getD (4 * t + 2) 0 = c := ⟨_, rfl⟩
      obtain ⟨c3, hc3⟩ : ∃ c, blk.getD (4 * t + 3) 0 = c := ⟨_, rfl⟩
      rw [hc0] at hb0
      rw [hc1] at hb1
      rw [hc2] at hb2
      rw [hc3] at hb3
      replace hc0 := lh hc0
      replace hc1 := lh hc1
      replace hc2 := lh hc2
      replace hc3 := lh hc3
      go_wp2_with fail
      refine wp_region_noPanic ?_
      go_region
      refine NoPanic.normal ?_
      go_wp2_with fail
      go_roundg (64 - (t + 1))
      case measure => omega
      case rel =>
       refine ⟨t + 1, rfl, by omega, by go_num, ?_⟩
       have := hnx.out _ (word_val c0 c1 c2 c3 hc0.out hc1.out hc2.out hc3.out)
       rw [<- hwd.out, hsu.out] at this
       exact mk_drew this
    . have h16' : ¬ (t : Int) < 16 := by omega
      have hi64 : (t : Int) < 64 := by omega
      have hc16 := mk_at hm (t - 16) (by omega)
      have hc15 := mk_at hm (t - 15) (by omega)
      have hc7 := mk_at hm (t - 7) (by omega)
      have hc2 := mk_at hm (t - 2) (by omega)
      have hct := mk_at hm t (by omega)
      have hfr := fr_of hm.1
      rw [sofar_at full t _ hfl.out (by omega) (by omega)] at hc16 hc15 hc7 hc2
      have hnext := sched_next (words blk) t (words_length _) (by omega) htl
      rw [<- hF.out] at hnext
      have hmH := lh hm
      have hnextH := lh hnext
      have hsu := lh (sofar_succ full t hfl.out htl)
      clear hsl' hnext hm
      generalize full.getD (t - 16) 0 = x16 at *
      generalize full.getD (t - 15) 0 = x15 at *
      generalize full.getD (t - 7) 0 = x7 at *
      generalize full.getD (t - 2) 0 = x2 at *
      have hw16 : IntKind.i64.wrap ((t : Int) - 16) = ((t - 16 : Nat) : Int) := by rw [show (t : Int) - 16 = ((t - 16 : Nat) : Int) from by omega]; exact Go.Proofs.YtbiioaggilaebaaGreatDoor.Sha.wrap_small (Int.natCast_nonneg _) (by omega)
      have hw7 : IntKind.i64.wrap ((t : Int) - 7) = ((t - 7 : Nat) : Int) := by rw [show (t : Int) - 7 = ((t - 7 : Nat) : Int) from by omega]; exact Go.Proofs.YtbiioaggilaebaaGreatDoor.Sha.wrap_small (Int.natCast_nonneg _) (by omega)
      have hb16 : (((t - 16 : Nat) : Int) < 64) = True := eq_true (by omega)
      have hb7 : (((t - 7 : Nat) : Int) < 64) = True := eq_true (by omega)
      have ht16 : ¬ (t - 16 = t) := by omega
      have ht7 : ¬ (t - 7 = t) := by omega
      have ht16' : ¬ (t = t - 16) := by omega
      have ht7' : ¬ (t = t - 7) := by omega
      go_wp2_with fail
      refine wp_region_noPanic ?_
      go_region_held3 (fun W => W.cell? ⟨W5.heap.size, t - 16, none⟩ = some (.int .u32 (nv x16)) /\ W.cell? ⟨W5.heap.size, t - 7, none⟩ = some (.int .u32 (nv x7))) (first | go_keep | exact ⟨keep_set hc16 ht16, keep_set hc7 ht7⟩)
       ((go_at_call 92; refine (rturn_any _ _ (by unfold Cnt; omega) _).mono ?_; rintro e w' ⟨rfl, n', rfl⟩))
      refine NoPanic.normal ?_
      go_wp2_with fail
      go_roundg (64 - (t + 1))
      case measure => omega
      case rel =>
       refine ⟨t + 1, rfl, by omega, by go_num, ?_⟩
       have hms := mk_set hmH.out t (full.getD t 0) (sched_val2 x16 x15 x7 x2 |>.trans (congrArg nv hnextH.out.symm))
       rw [hsu.out] at hms
       exact ⟨hms.1, ⟨hms.2.os, hms.2.tape, hms.2.output, hms.2.size, hms.2.block⟩⟩
  . have ht64 : t = 64 := by omega
    subst ht64
    have hf64 : sofar full 64 = full := by unfold sofar; rw [List.take_of_length_le (by rw [hfl.out]; omega)]; simp
    rw [hf64] at hm
    have hmH := lh hm
    clear hm hf64
    go_wp2_with fail
    apply hexH.out
    exact hmH.out
end Go.Proofs.YtbiioaggilaebaaGreatDoor.Ref
namespace Go.Proofs.YtbiioaggilaebaaGreatDoor.Dig
open Go Go.RowKit B Sha
open Lin (bs bs_data bs_of bs_size size_list)
def digs : List UInt8 := [48, 49, 50, 51, 52, 53, 54, 55, 56, 57, 97, 98, 99, 100, 101, 102]
theorem digs_dv (c : UInt8) : digs.contains c = (dv c).isSome := by
 have : ∀ n : Fin 256, digs.contains (UInt8.ofFin n) = (dv (UInt8.ofFin n)).isSome := by decide +kernel
 exact this c.toFin
theorem digs_index (c : UInt8) (n : Nat) (h : dv c = some n) : Lib.indexByte digs c = (n : Int) := by
 have : ∀ n : Fin 256, (match dv (UInt8.ofFin n) with | some k => Lib.indexByte digs (UInt8.ofFin n) == (k : Int) | none => true) = true := by decide +kernel
 have h2 := this c.toFin
 rw [show UInt8.ofFin c.toFin = c from rfl, h] at h2
 exact beq_iff_eq.1 h2
theorem dropWhile_all {α : Type} (p : α -> Bool) : ∀ l : List α, l.dropWhile p = [] ↔ l.all p = true
 | [] => by simp
 | a :: l => by
  rw [List.dropWhile_cons, List.all_cons]
  cases h : p a with
  | true => simpa using dropWhile_all p l
  | false => simp
theorem all_reverse' (p : UInt8 -> Bool) (l : List UInt8) : l.reverse.all p = l.all p := by
 rw [Bool.eq_iff_iff, List.all_eq_true, List.all_eq_true]
 simp
theorem trim_empty (l : List UInt8) : Lib.trimS l digs = [] ↔ allD l = true := by
 have e : allD l = l.all (digs.contains ·) := by
  unfold allD
  congr 1
  funext c
  exact (digs_dv c).symm
 rw [e]
 unfold Lib.trimS Lib.trimLeftS Lib.trimRightS
 rw [dropWhile_all, all_reverse']
 constructor
 . intro h
   by_cases ha : l.all (digs.contains ·) = true
   . exact ha
   . -- the last one that is none stays
     exfalso
     rw [<- all_reverse'] at ha
     have hne : l.reverse.dropWhile (digs.contains ·) ≠ [] := fun h0 => ha ((dropWhile_all _ _).1 h0)
     obtain ⟨x, r, hx⟩ := List.exists_cons_of_ne_nil hne
     have hp : digs.contains x = false := by
      have := List.head?_dropWhile_not (digs.contains ·) l.reverse
      rw [hx] at this
      exact this
     rw [hx, List.all_cons, hp] at h
     simp at h
 . intro h
   rw [<- all_reverse', <- dropWhile_all] at h
   rw [h]; rfl
def rawE (r : Option (List UInt8)) : Value := match r with
 | some _ => .nilIface
 | none => .iface 54 (.int .i64 4)
def RawPost (l : List UInt8) (w : World) (e : Ending) (w' : World) : Prop := e = .returned (.tuple #[.string (rawR l).1, rawE (rawL l)]) /\ Below w.heap.size w w'
theorem rawPost_none {l : List UInt8} {w w' : World} (h : rawL l = none) (hb : Below w.heap.size w w') : RawPost l w (.returned (.tuple #[.string ⟨#[]⟩, .iface 54 (.int .i64 4)])) w' := by
 unfold RawPost rawR rawE; rw [h]; exact ⟨rfl, hb⟩
theorem rawPost_some {l r : List UInt8} {w w' : World} (h : rawL l = some r) (hb : Below w.heap.size w w') : RawPost l w (.returned (.tuple #[.string (bs r), .nilIface])) w' := by
 unfold RawPost rawR rawE; rw [h]; exact ⟨rfl, hb⟩
theorem trim_any (s : ByteArray) (hs : s.size <= 140737488351232) (w : World) :
 Calls Tryz.prog 145 #[.string s, .string ⟨#[48, 49, 50, 51, 52, 53, 54, 55, 56, 57, 97, 98, 99, 100, 101, 102]⟩] w fun e w' => e = .returned (.string (bs (Lib.trimS s.data.toList digs))) /\ Below w.heap.size w w' :=
 Any.strings_Trim_laid Tryz.lays160 (by kernel_rfl) s ⟨#[48, 49, 50, 51, 52, 53, 54, 55, 56, 57, 97, 98, 99, 100, 101, 102]⟩ w (by omega) (by decide) (ascii_of_all (by decide))
theorem raw_odd (s : ByteArray) (hs : s.size <= 140737488351232) (w : World) (h : ¬ s.size % 2 = 0) : Calls Tryz.prog 113 #[.string s] w (RawPost s.data.toList w) := by
 have hN := lh (rawL_odd (l := s.data.toList) (by rw [size_list]; exact h))
 have hsi : (s.size : Int) <= 140737488351232 := by omega
 have h1 : (((s.size : Int) % 2) != 0) = true := by rw [bne_iff_ne]; omega
 clear h
 go_enter Tryz.func113, Tryz.ntmps113
 go_wp2_with fail
 go_ret2
 exact rawPost_none hN.out (Below.refl _ _)
theorem raw_notD (s : ByteArray) (hs : s.size <= 140737488351232) (w : World) (h : s.size % 2 = 0) (hd : allD s.data.toList = false) : Calls Tryz.prog 113 #[.string s] w (RawPost s.data.toList w) := by
 have hN := lh (rawL_notD hd)
 have hsi : (s.size : Int) <= 140737488351232 := by omega
 have h1 : (((s.size : Int) % 2) != 0) = false := by rw [bne_eq_false_iff_eq]; omega
 have C := trim_any s hs w
 have hne : Lib.trimS s.data.toList digs ≠ [] := fun e => by rw [(trim_empty _).1 e] at hd; cases hd
 obtain ⟨x, r, hx⟩ := List.exists_cons_of_ne_nil hne
 have hz : (bs (Lib.trimS s.data.toList digs)).toList = x :: r := by rw [ByteArray.toList_eq, bs_data, hx]
 generalize bs (Lib.trimS s.data.toList digs) = t at *
 have hz1 : t.toList.isEmpty = false := by rw [hz]; rfl
 have hz2 : ¬ t.toList = [] := by rw [hz]; simp
 have CH := lh C
 clear C hne hx hd h hz
 go_enter Tryz.func113, Tryz.ntmps113
 go_wp2_with fail
 refine (CH.out).mono ?_
 rintro e w1 ⟨rfl, hb⟩
 replace hb := lh hb
 go_wp2_with fail
 go_ret2
 exact rawPost_none hN.out hb.out
theorem index_dig (a : UInt8) (x : Nat) (h : dv a = some x) (W : World) :
 Calls Tryz.prog 146 #[.string ⟨#[48, 49, 50, 51, 52, 53, 54, 55, 56, 57, 97, 98, 99, 100, 101, 102]⟩, .int .u8 (a.toNat : Int)] W fun e w' => e = .returned (.int .i64 (x : Int)) /\ W = w' := by
 have := Tryz.strings_IndexByte ⟨#[48, 49, 50, 51, 52, 53, 54, 55, 56, 57, 97, 98, 99, 100, 101, 102]⟩ (a.toNat : Int) W
 rw [show ((a.toNat : Int)).toNat.toUInt8 = a from by simp, show (⟨#[48, 49, 50, 51, 52, 53, 54, 55, 56, 57, 97, 98, 99, 100, 101, 102]⟩ : ByteArray).data.toList = digs from rfl, digs_index a x h] at this
 exact this.mono fun e w' ⟨h1, h2⟩ => ⟨h1, h2.symm⟩
theorem byte_val {x y : Nat} (hx : x < 16) (hy : y < 16) : IntKind.u8.wrap (bits .or .i64 (IntKind.i64.wrap ((x : Int) * 16)) (y : Int)) = (((UInt8.ofNat (16 * x + y)).toNat : Nat) : Int) := by
 have : ∀ x y : Fin 16, IntKind.u8.wrap (bits .or .i64 (IntKind.i64.wrap ((x.val : Int) * 16)) (y.val : Int)) = (((UInt8.ofNat (16 * x.val + y.val)).toNat : Nat) : Int) := by decide +kernel
 exact this ⟨x, hx⟩ ⟨y, hy⟩
theorem rawL_at : ∀ (l r : List UInt8), rawL l = some r -> ∀ j, j < r.length -> ∃ x y, dv (l.getD (2 * j) 0) = some x /\ dv (l.getD (2 * j + 1) 0) = some y /\ r.getD j 0 = UInt8.ofNat (16 * x + y)
 | [], r, h, j, hj => by cases h; simp at hj
 | [_], r, h, j, hj => by cases h
 | a :: b :: l, r, h, j, hj => by
  rw [rawL_two] at h
  split at h
  . rename_i c r' h1 h2
    cases h
    cases j with
    | zero =>
     unfold pair at h1
     split at h1
     . rename_i x y hx hy
       exact ⟨x, y, hx, hy, (Option.some.inj h1).symm⟩
     . cases h1
    | succ j =>
     obtain ⟨x, y, h3, h4, h5⟩ := rawL_at l r' h2 j (by simpa using hj)
     refine ⟨x, y, ?_, ?_, ?_⟩
     . rw [show 2 * (j + 1) = 2 * j + 1 + 1 from by omega]; simpa using h3
     . rw [show 2 * (j + 1) + 1 = 2 * j + 1 + 1 + 1 from by omega]; simpa using h4
     . simpa using h5
  . cases h
theorem raw_good (s : ByteArray) (hs : s.size <= 140737488351232) (w : World) (h : s.size % 2 = 0) (hd : allD s.data.toList = true) : Calls Tryz.prog 113 #[.string s] w (RawPost s.data.toList w) := by
 obtain ⟨r, hr⟩ := rawL_some hd (by rw [size_list]; exact h)
 have hN := lh hr
 have hlen : s.size = 2 * r.length := by have := rawL_len _ _ hr; rwa [size_list] at this
 have hat := lh (rawL_at _ _ hr)
 have hsi : (s.size : Int) <= 140737488351232 := by omega
 have h1 : (((s.size : Int) % 2) != 0) = false := by rw [bne_eq_false_iff_eq]; omega
 have C := trim_any s hs w
 rw [(trim_empty _).2 hd] at C
 have CH := lh C
 obtain ⟨m, hm⟩ : ∃ m, m = r.length := ⟨_, rfl⟩
 rw [<- hm] at hlen
 replace hm := lh hm
 have hmm : m <= 70368744175616 := by omega
 have hsm : (s.size : Int) = 2 * (m : Int) := by omega
 replace hsm := lh hsm
 replace hlen := lh hlen
 obtain ⟨i8, hi8, hz8, hs8, hb8⟩ := info8
 clear C hr hd h
 go_enter Tryz.func113, Tryz.ntmps113
 go_wp2_with fail
 refine (CH.out).mono ?_
 rintro e w1 ⟨rfl, hb⟩
 replace hb := lh hb
 have hown0 := lh (own_nil w1 w1.heap.size)
 rw [show bs [] = ⟨#[]⟩ from rfl]
 go_wp2_with fail
 go_loopg [4, 5] m (fun g v i W => ∃ j p : Nat, g = m - j /\ j <= m /\ p = 2 * j /\ i = .int .i64 p /\ W.ownsRow w1.heap.size 5 1 v j (bc (r.take j)) /\ Tch (fun _ => False) w1 W)
 case atStart => exact ⟨0, 0, rfl, by omega, rfl, rfl, hown0.out, Tch.refl _ _⟩
 case round =>
  clear hown0
  obtain ⟨j, p, hgj, hj, hp, rfl, ho, ht⟩ := hrel
  subst hgj
  replace hp := lh hp
  by_cases hjl : j < m
  . have hji : (p : Int) < (s.size : Int) := by have := hsm.out; have := hp.out; omega
    have hji1 : (p : Int) + 1 < (s.size : Int) := by have := hsm.out; have := hp.out; omega
    have hix := fun (W : World) => str_idx (P := Tryz.prog) Tryz.underlying9 s p (by omega) W
    have hix1 := fun (W : World) => str_idx (P := Tryz.prog) Tryz.underlying9 s (p + 1) (by omega) W
    rw [show ((p + 1 : Nat) : Int) = (p : Int) + 1 from by omega] at hix1
    obtain ⟨x, y, hx, hy, hxy⟩ := hat.out j (by rw [<- hm.out]; exact hjl)
    rw [<- hp.out] at hx hy
    have hwp : IntKind.i64.wrap ((p : Int) + 1) = (p : Int) + 1 := IntWalk.i64_in _ (by omega)
    generalize s.data.toList.getD p 0 = a at *
    generalize s.data.toList.getD (p + 1) 0 = b at *
    have CA := lh (index_dig a x hx)
    have CB := lh (index_dig b y hy)
    have hx16 := dv_lt hx
    have hy16 := dv_lt hy
    have hnx : ∀ (w2 : World) (v : Value) (news : List Value), w2.ownsRow w1.heap.size 5 1 v (j + 1) (bc (r.take j) ++ news) -> news = [.int .u8 (IntKind.u8.wrap (bits .or .i64 (IntKind.i64.wrap ((x : Int) * 16)) (y : Int)))] ->
     w2.ownsRow w1.heap.size 5 1 v (j + 1) (bc (r.take (j + 1))) := by
     intro w2 v news h1 h2
     subst h2
     rw [byte_val hx16 hy16, <- hxy] at h1
     rw [List.take_add_one, List.getElem?_eq_getElem (by rw [<- hm.out]; exact hjl), bc_append]
     rw [List.getD_eq_getElem?_getD, List.getElem?_eq_getElem (by rw [<- hm.out]; exact hjl)] at h1
     exact h1
    have hfin := lh hnx
    clear hnx hx hy hxy
    have hoH := lh ho
    have htH := lh ht
    clear ho ht
    go_wp2_with fail
    go_region_held3 (fun W => True) (exact trivial)
     ((first
      | (go_at_call 146; with_reducible refine (CA.out _).mono ?_; rintro e w' ⟨rfl, rfl⟩)
      | (go_at_call 146; with_reducible refine (CB.out _).mono ?_; rintro e w' ⟨rfl, rfl⟩)
      | (refine step_append_lies _ (by rfl) _ _ _ (by rfl) w1.heap.size 5 i8 _ 1 1 Tryz.underlying69 hi8 hz8 hs8 hb8 rfl (by omega) u4 j _ (by rfl) (hoH.out.alloc _).drew ⟨wr.heap.size, 0, none⟩ 1 1 _ (by rfl) (by rfl) (World.news_of_block (heap_alloc_at wr _)) (by simp [Value.oneCell']) (by omega) (by unfold maxLen; omega) (by omega) (by have := htH.out.size; simp; omega) (wr.heap.size + 1) (by simp) ?_; intro g cap2 w2 hown1 hgrow hat2 hlt)))
    all_goals (try go_wp2_with fail)
    all_goals go_roundg (m - (j + 1))
    all_goals first | omega | exact ⟨j + 1, p + 2, rfl, by omega, by have := hp.out; omega, by go_num, hfin.out _ _ _ hown1 rfl, own_tch (htH.out.alloc _) (hoH.out.alloc _) (Nat.le_refl _) (undrew hgrow)⟩
  . have hjm : j = m := by omega
    subst hjm
    have hji : ¬ (p : Int) < (s.size : Int) := by have := hsm.out; have := hp.out; omega
    rw [List.take_of_length_le (by rw [<- hm.out]; exact Nat.le_refl _)] at ho
    have hcv := own_conv _ _ _ r (by rw [<- hm.out]; exact ho)
    have htH := lh ht
    clear ho ht
    generalize hout : (⟨r.toArray⟩ : ByteArray) = out at hcv
    replace hout := lh hout
    go_wp2_with fail
    go_ret2
    rw [<- hout.out]
    exact rawPost_some hN.out (hb.out.trans (htH.out.below hb.out.size (fun _ h => h.elim)))
theorem raw_any (s : ByteArray) (hs : s.size <= 140737488351232) (w : World) : Calls Tryz.prog 113 #[.string s] w (RawPost s.data.toList w) := by
 by_cases h : s.size % 2 = 0
 . cases hd : allD s.data.toList with
   | true => exact raw_good s hs w h hd
   | false => exact raw_notD s hs w h hd
 . exact raw_odd s hs w h
def rightOf (l : List UInt8) : Bool := (rawL l).isSome && decide (((rawL l).getD []).length = 32)
theorem right_same (l : List UInt8) : rightOf l = rightL l := by
 unfold rightOf rightL
 cases h : rawL l with
 | none => simp
 | some r =>
  have := rawL_len l r h
  simp only [Option.isSome_some, Option.getD_some, Bool.true_and, Bool.and_true]
  by_cases h2 : r.length = 32
  . rw [decide_eq_true h2, decide_eq_true (by omega)]
  . rw [decide_eq_false h2, decide_eq_false (by omega)]
theorem right_any (s : ByteArray) (hs : s.size <= 140737488351232) (w : World) : Calls Tryz.prog 75 #[.string s] w fun e w' => e = .returned (.bool (rightL s.data.toList)) /\ Below w.heap.size w w' := by
 rw [<- right_same]
 have C := lh (raw_any s hs w)
 unfold RawPost rawR rightOf at *
 cases h : rawL s.data.toList with
 | none =>
  rw [h] at C
  unfold outR rawE at C
  clear h
  go_enter Tryz.func75, Tryz.ntmps75
  go_wp2_with fail
  refine (C.out).mono ?_
  rintro e w1 ⟨rfl, hb⟩
  replace hb := lh hb
  go_wp2_with fail
  go_ret
  exact ⟨rfl, hb.out⟩
 | some r =>
  rw [h] at C
  unfold outR rawE at C
  simp only [List.nil_append] at C
  have e : ((some r).isSome && decide (((some r).getD []).length = 32)) = decide ((bs r).size = 32) := by simp [bs_size]
  rw [e]
  clear e
  generalize bs r = t at *
  clear h
  by_cases h32 : t.size = 32
  . have q : ((t.size : Int) == 32) = true := by rw [beq_iff_eq]; omega
    rw [decide_eq_true h32]
    clear h32
    go_enter Tryz.func75, Tryz.ntmps75
    go_wp2_with fail
    refine (C.out).mono ?_
    rintro e w1 ⟨rfl, hb⟩
    replace hb := lh hb
    go_wp2_with fail
    go_ret
    exact ⟨rfl, hb.out⟩
  . have q : ((t.size : Int) == 32) = false := by rw [beq_eq_false_iff_ne]; omega
    rw [decide_eq_false h32]
    clear h32
    go_enter Tryz.func75, Tryz.ntmps75
    go_wp2_with fail
    refine (C.out).mono ?_
    rintro e w1 ⟨rfl, hb⟩
    replace hb := lh hb
    go_wp2_with fail
    go_ret
    exact ⟨rfl, hb.out⟩
end Go.Proofs.YtbiioaggilaebaaGreatDoor.Dig
namespace Go.Proofs.YtbiioaggilaebaaGreatDoor.Tm
open Go Go.RowKit B YtbiioaggilaebaaGreatDoorW.PrintWords
theorem digs_f (n : Nat) : ∀ k, n <= 9223372036854775807 -> n + 1 <= k -> PNumber.tambourref04_Digits.f k (n : Int) = some ⟨(Lib.decDigits n).toArray⟩ := by
 induction n using Nat.strongRecOn with
 | _ n ih =>
  intro k hn hk
  obtain ⟨k, rfl⟩ : ∃ m, k = m + 1 := ⟨k - 1, by omega⟩
  unfold PNumber.tambourref04_Digits.f
  rw [if_neg (by omega), Option.bind_some]
  have e1 : wrap64 (48 + Int.tmod (n : Int) 10) % 256 = ((UInt8.ofNat (48 + n % 10)).toNat : Int) := by
   rw [UInt8.toNat_ofNat', show Int.tmod (n : Int) 10 = ((n % 10 : Nat) : Int) from by rw [Int.tmod_eq_emod_of_nonneg (by omega)]; omega]
   unfold wrap64
   omega
  rw [e1]
  have e2 : strOfNums [((UInt8.ofNat (48 + n % 10)).toNat : Int)] = ⟨#[UInt8.ofNat (48 + n % 10)]⟩ := Dig.strOfNums_nums [UInt8.ofNat (48 + n % 10)]
  rw [e2, Lib.decDigits]
  by_cases h10 : n < 10
  . rw [if_pos (by omega), dif_pos h10, Nat.mod_eq_of_lt h10]
  . rw [if_neg (by omega), dif_neg h10]
    have e3 : wrap64 (Int.tdiv (n : Int) 10) = ((n / 10 : Nat) : Int) := by
     rw [Int.tdiv_eq_ediv_of_nonneg (by omega)]
     unfold wrap64
     omega
    rw [e3, ih (n / 10) (by omega) k (by omega) (by omega), Option.bind_some]
    have hl := Lib.itoa_length_le ((n / 10 : Nat) : Int) (by omega) (by omega)
    rw [Lib.itoa_nonneg] at hl
    have hs : (ByteArray.mk (Lib.decDigits (n / 10)).toArray).size = (Lib.decDigits (n / 10)).length := by show (Lib.decDigits (n / 10)).toArray.size = _; simp
    have h1 : (ByteArray.mk #[UInt8.ofNat (48 + n % 10)]).size = 1 := rfl
    rw [if_pos (by omega)]
    congr 1
theorem digs_int (n : Int) (h0 : -9223372036854775808 <= n) (h1 : n <= 9223372036854775807) : ∃ k, PNumber.tambourref04_Digits.f k n = some ⟨(Lib.itoa n).toArray⟩ := by
 by_cases hn : 0 <= n
 . obtain ⟨m, rfl⟩ : ∃ m : Nat, n = (m : Int) := ⟨n.toNat, by omega⟩
   exact ⟨m + 1, by rw [digs_f m (m + 1) (by omega) (Nat.le_refl _), Lib.itoa_nonneg]⟩
 . obtain ⟨m, rfl, hm⟩ : ∃ m : Nat, n = -(m : Int) /\ 1 <= m := ⟨(-n).toNat, by omega, by omega⟩
   rw [Lib.itoa_neg m hm]
   refine ⟨m + 2, ?_⟩
   unfold PNumber.tambourref04_Digits.f
   rw [if_pos (by omega)]
   by_cases hb : m = 9223372036854775808
   . rw [if_pos (by omega), hb]
     have e : Lib.decDigits 9223372036854775808 = [57, 50, 50, 51, 51, 55, 50, 48, 51, 54, 56, 53, 52, 55, 55, 53, 56, 48, 56] := by
      simp [Lib.decDigits]
     rw [e]
   . rw [if_neg (by omega)]
     have e3 : wrap64 (-(-(m : Int))) = (m : Int) := by unfold wrap64; omega
     rw [e3, digs_f m (m + 1) (by omega) (Nat.le_refl _), Option.bind_some]
     have hl := Lib.itoa_length_le (m : Int) (by omega) (by omega)
     rw [Lib.itoa_nonneg] at hl
     have hs : (ByteArray.mk (Lib.decDigits m).toArray).size = (Lib.decDigits m).length := by show (Lib.decDigits m).toArray.size = _; simp
     rw [if_pos (by omega)]
     congr 1
theorem digits_c (n : Int) (h0 : -9223372036854775808 <= n) (h1 : n <= 9223372036854775807) (w : World) :
 Calls Tryz.prog 129 #[.int .i64 n] w fun e w' => e = .returned (.string ⟨(Lib.itoa n).toArray⟩) /\ Below w.heap.size w w' := by
 obtain ⟨k, hk⟩ := digs_int n h0 h1
 exact PNumber.tambourref04_Digits.calls k n _ w hk
end Go.Proofs.YtbiioaggilaebaaGreatDoor.Tm
