/- What LawPatchInverse lean on, part w of 29: the texts PaX, PaZ, PcA, PbA, PbB, PbC, PcB. -/
import Derived.Test.YtbiioaggilaebaaGreatDoorTX0
import Derived.Test.YtbiioaggilaebaaGreatDoorTXp
import Derived.Test.YtbiioaggilaebaaGreatDoorTXq
import Derived.Test.YtbiioaggilaebaaGreatDoorTXv
import Derived.RangeFuncNested
import Derived.RangeFuncBound
import Derived.RangeFuncCalls
import Derived.RangeFuncLeaves
import Derived.Shelf.Abstract
import Derived.WalkKit
import Derived.OwnWalkIn
import Derived.TacticsInMore
import Derived.LoopNIn
import Derived.LoopIn
set_option linter.all false
set_option maxRecDepth 100000
set_option maxHeartbeats 16000000
namespace Go.Proofs.YtbiioaggilaebaaGreatDoor.Pa
open Go Go.RowKit YtbiioaggilaebaaGreatDoorW.PrintWords B Tm Wi
def com (note : ByteArray) (deps : List ByteArray) (ops : List Op) (note' : ByteArray) (deps' : List ByteArray) (ops' : List Op) : Bool :=
 pright note deps ops && (pright note' deps' ops' && (decide (place deps (pname note' deps' ops') < 0) && decide (place deps' (pname note deps ops) < 0)))
theorem commute_c (note : ByteArray) (D : Option Addr) (dc : Nat) (deps : List ByteArray) (A : Option Addr) (ac : Nat) (ops : List Op) (note' : ByteArray) (D' : Option Addr) (dc' : Nat) (deps' : List ByteArray) (A' : Option Addr) (ac' : Nat) (ops' : List Op) (w : World) (hD : TxAt w D dc deps) (hO : OpsAt w A ac ops) (hD' : TxAt w D' dc' deps') (hO' : OpsAt w A' ac' ops') (htab : Tab w) (hgB : 2 < w.heap.size) :
 Calls Tryz.prog 13 #[.agg #[.string note, .slice D deps.length dc, .slice A ops.length ac], .agg #[.string note', .slice D' deps'.length dc', .slice A' ops'.length ac']] w fun e w' => e = .returned (.bool (com note deps ops note' deps' ops')) /\ Below w.heap.size w w' := by
 obtain ⟨w1, hw1⟩ : ∃ w1, w1 = w.alloc (.cells #[.string note, .slice D deps.length dc, .slice A ops.length ac] 25) := ⟨_, rfl⟩
 obtain ⟨w2, hw2⟩ : ∃ w2, w2 = w1.alloc (.cells #[.string note', .slice D' deps'.length dc', .slice A' ops'.length ac'] 25) := ⟨_, rfl⟩
 have hs1 : w1.heap.size = w.heap.size + 1 := by rw [hw1]; simp
 have hb2 := lh (show Below w.heap.size w w2 by rw [hw2, hw1]; exact ((Below.refl _ _).alloc (Nat.le_refl _) _).alloc (by simp) _)
 have hP1 : PatAt w1 w.heap.size note D deps.length dc A ops.length ac := by unfold PatAt; rw [hw1]; exact heap_alloc_at _ _
 have hP2 : PatAt w2 w.heap.size note D deps.length dc A ops.length ac := by unfold PatAt; rw [hw2]; exact (heap_alloc_lt _ _ _ (heap_lt hP1)).trans hP1
 have hQ2 : PatAt w2 (w.heap.size + 1) note' D' deps'.length dc' A' ops'.length ac' := by unfold PatAt; rw [hw2, <- hs1]; exact heap_alloc_at _ _
 have C1 := fun W (h : Below w.heap.size w W) => pname_c note D dc deps A ac ops W (hD.below h) (hO.below h) (htab.keep h hgB) (Nat.lt_of_lt_of_le hgB h.size)
 have C2 := fun W (h : Below w.heap.size w W) => pname_c note' D' dc' deps' A' ac' ops' W (hD'.below h) (hO'.below h) (htab.keep h hgB) (Nat.lt_of_lt_of_le hgB h.size)
 have K1 := fun s W (h : Below w.heap.size w W) => contains_c D dc deps s W (hD.below h)
 have K2 := fun s W (h : Below w.heap.size w W) => contains_c D' dc' deps' s W (hD'.below h)
 obtain ⟨R, hR⟩ : ∃ R, R = com note deps ops note' deps' ops' := ⟨_, rfl⟩
 rw [<- hR]
 unfold com at hR
 unfold nmOf at C1 C2
 generalize pname note deps ops = na at *
 generalize pname note' deps' ops' = nb at *
 obtain ⟨x1, hx1⟩ : ∃ x, x = place deps nb := ⟨_, rfl⟩
 obtain ⟨x2, hx2⟩ : ∃ x, x = place deps' na := ⟨_, rfl⟩
 have K1' := fun W h => K1 nb W h
 have K2' := fun W h => K2 na W h
 rw [<- hx1] at K1' hR
 rw [<- hx2] at K2' hR
 generalize deps.length = nd at *
 generalize deps'.length = nd' at *
 generalize ops.length = no at *
 generalize ops'.length = no' at *
 generalize pright note deps ops = r1 at *
 generalize pright note' deps' ops' = r2 at *
 replace hP2 := lh hP2
 replace hQ2 := lh hQ2
 replace hR := lh hR
 replace hx1 := lh hx1
 replace hx2 := lh hx2
 replace K1' := lh K1'
 replace K2' := lh K2'
 clear hD hO hD' hO' hP1 K1 K2 htab hgB
 obtain ⟨p0, p1, p2, _, _⟩ := blk3' hP2.out
 obtain ⟨q0, q1, q2, _, _⟩ := blk3' hQ2.out
 cases r1 <;> cases r2
 . simp only [Bool.false_eq_true, if_false, if_true] at C1 C2
   replace C1 := lh C1
   replace C2 := lh C2
   go_enter Tryz.func13, Tryz.ntmps13
   go_upto_region 1 with fail
   rw [<- hw1]
   try rw [hs1]
   rw [<- hw2]
   replace hw1 := lh hw1
   replace hw2 := lh hw2
   replace hs1 := lh hs1
   go_wp2_with fail
   refine (C1.out w2 hb2.out).mono ?_
   rintro ev w3 ⟨rfl, hb⟩
   have hb3 := lh (hb2.out.trans (hb.mono hb2.out.size))
   have hP3 := lh (show PatAt w3 w.heap.size note D nd dc A no ac from (hb.block _ (heap_lt hP2.out)).trans hP2.out)
   have hQ3 := lh (show PatAt w3 (w.heap.size + 1) note' D' nd' dc' A' no' ac' from (hb.block _ (heap_lt hQ2.out)).trans hQ2.out)
   clear hb p0 p1 p2 q0 q1 q2
   obtain ⟨q0, q1, q2, _, _⟩ := blk3' hQ3.out
   go_wp2_with fail
   refine (C2.out w3 hb3.out).mono ?_
   rintro ev w4 ⟨rfl, hb⟩
   have hb4 := lh (hb3.out.trans (hb.mono hb3.out.size))
   have hP4 := lh (show PatAt w4 w.heap.size note D nd dc A no ac from (hb.block _ (heap_lt hP3.out)).trans hP3.out)
   have hQ4 := lh (show PatAt w4 (w.heap.size + 1) note' D' nd' dc' A' no' ac' from (hb.block _ (heap_lt hQ3.out)).trans hQ3.out)
   clear hb q0 q1 q2
   obtain ⟨p0, p1, p2, _, _⟩ := blk3' hP4.out
   obtain ⟨q0, q1, q2, _, _⟩ := blk3' hQ4.out
   go_wp2_with fail
   go_ret
   exact ⟨ret_b (by rw [hR.out]; simp), hb4.out⟩
 . simp only [Bool.false_eq_true, if_false, if_true] at C1 C2
   replace C1 := lh C1
   replace C2 := lh C2
   go_enter Tryz.func13, Tryz.ntmps13
   go_upto_region 1 with fail
   rw [<- hw1]
   try rw [hs1]
   rw [<- hw2]
   replace hw1 := lh hw1
   replace hw2 := lh hw2
   replace hs1 := lh hs1
   go_wp2_with fail
   refine (C1.out w2 hb2.out).mono ?_
   rintro ev w3 ⟨rfl, hb⟩
   have hb3 := lh (hb2.out.trans (hb.mono hb2.out.size))
   have hP3 := lh (show PatAt w3 w.heap.size note D nd dc A no ac from (hb.block _ (heap_lt hP2.out)).trans hP2.out)
   have hQ3 := lh (show PatAt w3 (w.heap.size + 1) note' D' nd' dc' A' no' ac' from (hb.block _ (heap_lt hQ2.out)).trans hQ2.out)
   clear hb p0 p1 p2 q0 q1 q2
   obtain ⟨q0, q1, q2, _, _⟩ := blk3' hQ3.out
   go_wp2_with fail
   refine (C2.out w3 hb3.out).mono ?_
   rintro ev w4 ⟨rfl, hb⟩
   have hb4 := lh (hb3.out.trans (hb.mono hb3.out.size))
   have hP4 := lh (show PatAt w4 w.heap.size note D nd dc A no ac from (hb.block _ (heap_lt hP3.out)).trans hP3.out)
   have hQ4 := lh (show PatAt w4 (w.heap.size + 1) note' D' nd' dc' A' no' ac' from (hb.block _ (heap_lt hQ3.out)).trans hQ3.out)
   clear hb q0 q1 q2
   obtain ⟨p0, p1, p2, _, _⟩ := blk3' hP4.out
   obtain ⟨q0, q1, q2, _, _⟩ := blk3' hQ4.out
   go_wp2_with fail
   go_ret
   exact ⟨ret_b (by rw [hR.out]; simp), hb4.out⟩
 . simp only [Bool.false_eq_true, if_false, if_true] at C1 C2
   replace C1 := lh C1
   replace C2 := lh C2
   go_enter Tryz.func13, Tryz.ntmps13
   go_upto_region 1 with fail
   rw [<- hw1]
   try rw [hs1]
   rw [<- hw2]
   replace hw1 := lh hw1
   replace hw2 := lh hw2
   replace hs1 := lh hs1
   go_wp2_with fail
   refine (C1.out w2 hb2.out).mono ?_
   rintro ev w3 ⟨rfl, hb⟩
   have hb3 := lh (hb2.out.trans (hb.mono hb2.out.size))
   have hP3 := lh (show PatAt w3 w.heap.size note D nd dc A no ac from (hb.block _ (heap_lt hP2.out)).trans hP2.out)
   have hQ3 := lh (show PatAt w3 (w.heap.size + 1) note' D' nd' dc' A' no' ac' from (hb.block _ (heap_lt hQ2.out)).trans hQ2.out)
   clear hb p0 p1 p2 q0 q1 q2
   obtain ⟨q0, q1, q2, _, _⟩ := blk3' hQ3.out
   go_wp2_with fail
   refine (C2.out w3 hb3.out).mono ?_
   rintro ev w4 ⟨rfl, hb⟩
   have hb4 := lh (hb3.out.trans (hb.mono hb3.out.size))
   have hP4 := lh (show PatAt w4 w.heap.size note D nd dc A no ac from (hb.block _ (heap_lt hP3.out)).trans hP3.out)
   have hQ4 := lh (show PatAt w4 (w.heap.size + 1) note' D' nd' dc' A' no' ac' from (hb.block _ (heap_lt hQ3.out)).trans hQ3.out)
   clear hb q0 q1 q2
   obtain ⟨p0, p1, p2, _, _⟩ := blk3' hP4.out
   obtain ⟨q0, q1, q2, _, _⟩ := blk3' hQ4.out
   go_wp2_with fail
   go_ret
   exact ⟨ret_b (by rw [hR.out]; simp), hb4.out⟩
 . simp only [Bool.false_eq_true, if_false, if_true] at C1 C2
   replace C1 := lh C1
   replace C2 := lh C2
   go_enter Tryz.func13, Tryz.ntmps13
   go_upto_region 1 with fail
   rw [<- hw1]
   try rw [hs1]
   rw [<- hw2]
   replace hw1 := lh hw1
   replace hw2 := lh hw2
   replace hs1 := lh hs1
   go_wp2_with fail
   refine (C1.out w2 hb2.out).mono ?_
   rintro ev w3 ⟨rfl, hb⟩
   have hb3 := lh (hb2.out.trans (hb.mono hb2.out.size))
   have hP3 := lh (show PatAt w3 w.heap.size note D nd dc A no ac from (hb.block _ (heap_lt hP2.out)).trans hP2.out)
   have hQ3 := lh (show PatAt w3 (w.heap.size + 1) note' D' nd' dc' A' no' ac' from (hb.block _ (heap_lt hQ2.out)).trans hQ2.out)
   clear hb p0 p1 p2 q0 q1 q2
   obtain ⟨q0, q1, q2, _, _⟩ := blk3' hQ3.out
   go_wp2_with fail
   refine (C2.out w3 hb3.out).mono ?_
   rintro ev w4 ⟨rfl, hb⟩
   have hb4 := lh (hb3.out.trans (hb.mono hb3.out.size))
   have hP4 := lh (show PatAt w4 w.heap.size note D nd dc A no ac from (hb.block _ (heap_lt hP3.out)).trans hP3.out)
   have hQ4 := lh (show PatAt w4 (w.heap.size + 1) note' D' nd' dc' A' no' ac' from (hb.block _ (heap_lt hQ3.out)).trans hQ3.out)
   clear hb q0 q1 q2
   obtain ⟨p0, p1, p2, _, _⟩ := blk3' hP4.out
   obtain ⟨q0, q1, q2, _, _⟩ := blk3' hQ4.out
   by_cases h1 : x1 < 0
   . have h1H := lh h1
     have e1 : decide (0 <= x1) = false := by simp; omega
     go_wp2_with fail
     refine (K1'.out w4 hb4.out).mono ?_
     rintro ev w5 ⟨rfl, hb⟩
     have hb5 := lh (hb4.out.trans (hb.mono hb4.out.size))
     have hQ5 := lh (show PatAt w5 (w.heap.size + 1) note' D' nd' dc' A' no' ac' from (hb.block _ (heap_lt hQ4.out)).trans hQ4.out)
     clear hb p0 p1 p2 q0 q1 q2
     obtain ⟨q0, q1, q2, _, _⟩ := blk3' hQ5.out
     go_wp2_with fail
     refine (K2'.out w5 hb5.out).mono ?_
     rintro ev w6 ⟨rfl, hb⟩
     have hb6 := lh (hb5.out.trans (hb.mono hb5.out.size))
     clear hb
     go_wp2_with fail
     go_ret
     exact ⟨ret_b (by rw [hR.out, decide_eq_true (show x1 < 0 by have := h1H.out; omega), Bool.eq_iff_iff]; simp), hb6.out⟩
   . have h1H := lh h1
     have e1 : decide (0 <= x1) = true := by simp; omega
     go_wp2_with fail
     refine (K1'.out w4 hb4.out).mono ?_
     rintro ev w5 ⟨rfl, hb⟩
     have hb5 := lh (hb4.out.trans (hb.mono hb4.out.size))
     clear hb
     go_wp2_with fail
     go_ret
     exact ⟨ret_b (by rw [hR.out, decide_eq_false (show ¬ x1 < 0 by have := h1H.out; omega), Bool.eq_iff_iff]; simp), hb5.out⟩
end Go.Proofs.YtbiioaggilaebaaGreatDoor.Pa
namespace Go.Proofs.YtbiioaggilaebaaGreatDoor.Pa
open Go Go.RowKit YtbiioaggilaebaaGreatDoorW.PrintWords B Tm Wi
theorem infoO : ∃ i, Tryz.prog.info? 38 = some i /\ i.zero = some (.agg #[.int .i64 0, .int .i64 0, .int .i64 0, .int .i64 0, .int .i64 0, .slice none 0 0]) /\ i.size = 6 /\ i.bytes = 64 := by
 have h : (Tryz.prog.info? 38).map (fun i => (i.zero, i.size, i.bytes)) = some (some (.agg #[.int .i64 0, .int .i64 0, .int .i64 0, .int .i64 0, .int .i64 0, .slice none 0 0]), 6, 64) := by kernel_rfl
 match hi : Tryz.prog.info? 38, h with
 | some i, h =>
  simp only [Option.map_some, Option.some.injEq, Prod.mk.injEq] at h
  exact ⟨i, rfl, h.1, h.2.1, h.2.2⟩
theorem TxAt.move {w w' : World} {A : Option Addr} {c : Nat} {l : List ByteArray} (h : TxAt w A c l) (hm : 0 < l.length -> ∀ a, A = some a -> w'.heap[a.block]? = w.heap[a.block]?) : TxAt w' A c l := by
 obtain ⟨h1, h2⟩ := h
 refine ⟨?_, h2⟩
 by_cases h0 : 0 < l.length
 . exact strs_move h1 (hm h0)
 . obtain ⟨e1, e2, _⟩ := h1
   exact ⟨e1, e2, fun h => absurd h h0⟩
def OC (ok : Nat -> Prop) (w : World) : List Op -> List Value -> Prop
 | [], cs => cs = []
 | o :: l, cs => ∃ L c r, cs = (opCells o L c).toList ++ r /\ TxAt w L c o.ls /\ (0 < o.ls.length -> ∀ a, L = some a -> ok a.block) /\ OC ok w l r
theorem OC.move {ok ok' : Nat -> Prop} {w w' : World} (hm : ∀ b, ok b -> ok' b /\ w'.heap[b]? = w.heap[b]?) : ∀ {l : List Op} {cs : List Value}, OC ok w l cs -> OC ok' w' l cs
 | [], _, h => h
 | o :: l, cs, ⟨L, c, r, h1, h2, h3, h4⟩ => ⟨L, c, r, h1, h2.move (fun h0 a ha => (hm _ (h3 h0 a ha)).2), fun h0 a ha => (hm _ (h3 h0 a ha)).1, OC.move hm h4⟩
theorem OC.len {ok : Nat -> Prop} {w : World} : ∀ {l : List Op} {cs : List Value}, OC ok w l cs -> cs.length = l.length * 6
 | [], cs, h => by cases h; rfl
 | o :: l, cs, ⟨L, c, r, h1, h2, h3, h4⟩ => by
  rw [h1, List.length_append, OC.len h4, List.length_cons, show (opCells o L c).toList.length = 6 from rfl]
  omega
theorem OC.append {ok : Nat -> Prop} {w : World} {l' : List Op} {cs' : List Value} (h' : OC ok w l' cs') : ∀ {l : List Op} {cs : List Value}, OC ok w l cs -> OC ok w (l ++ l') (cs ++ cs')
 | [], cs, h => by cases h; exact h'
 | o :: l, cs, ⟨L, c, r, h1, h2, h3, h4⟩ => ⟨L, c, r ++ cs', by rw [h1, List.append_assoc], h2, h3, OC.append h' h4⟩
theorem OC.get {ok : Nat -> Prop} {w : World} : ∀ {l : List Op} {cs : List Value}, OC ok w l cs -> ∀ j (h : j < l.length), ∃ L c, (∀ i, i < 6 -> cs[j * 6 + i]? = (opCells l[j] L c)[i]?) /\ TxAt w L c l[j].ls
 | o :: l, cs, ⟨L, c, r, h1, h2, h3, h4⟩, 0, _ => ⟨L, c, fun i hi => by
  rw [h1, Nat.zero_mul, Nat.zero_add, List.getElem?_append_left (by show i < 6; exact hi), Array.getElem?_toList]
  rfl, h2⟩
 | o :: l, cs, ⟨L, c, r, h1, h2, h3, h4⟩, j + 1, h => by
  obtain ⟨L', c', e1, e2⟩ := OC.get h4 j (by simpa using h)
  refine ⟨L', c', fun i hi => ?_, e2⟩
  rw [h1, List.getElem?_append_right (by show 6 <= _; omega), show (j + 1) * 6 + i - (opCells o L c).toList.length = j * 6 + i from by rw [show (opCells o L c).toList.length = 6 from rfl]; omega, e1 i hi]
  rfl
theorem OC.one {ok : Nat -> Prop} {w : World} : ∀ {l : List Op} {cs : List Value}, OC ok w l cs -> ∀ u ∈ cs, u.oneCell' = true
 | [], cs, h, u, hu => by cases h; cases hu
 | o :: l, cs, ⟨L, c, r, h1, h2, h3, h4⟩, u, hu => by
  rw [h1, List.mem_append] at hu
  rcases hu with hu | hu
  . unfold opCells at hu
    simp only [List.mem_cons, List.not_mem_nil, or_false] at hu
    rcases hu with rfl | rfl | rfl | rfl | rfl | rfl <;> rfl
  . exact OC.one h4 u hu
def OBag (base : Nat) (w : World) (v : Value) (L : List Op) : Prop :=
 ∃ cs, w.ownsRow base 38 6 v L.length cs /\ OC (fun b => base <= b /\ b < w.heap.size /\ some b ≠ v.ownBlock) w L cs
theorem OBag.nil (base : Nat) (w : World) : OBag base w (.slice none 0 0) [] := ⟨[], ⟨rfl, .inl ⟨rfl, rfl⟩⟩, rfl⟩
theorem OBag.lt {base : Nat} {w : World} {v : Value} {L : List Op} (h : OBag base w v L) (k : Nat) (hk : v.ownBlock = some k) : base <= k /\ k < w.heap.size := by
 obtain ⟨cs, h1, _⟩ := h
 have := h1.lt k hk
 exact ⟨this.1, this.2⟩
theorem OBag.keep {base : Nat} {w w' : World} {v : Value} {L : List Op} (h : OBag base w v L) (hk : ∀ b, base <= b -> b < w.heap.size -> w'.heap[b]? = w.heap[b]?) (hs : w.heap.size <= w'.heap.size) : OBag base w' v L := by
 have hlt := h.lt
 obtain ⟨cs, h1, h2⟩ := h
 refine ⟨cs, ?_, OC.move (fun b hb => ⟨⟨hb.1, Nat.lt_of_lt_of_le hb.2.1 hs, hb.2.2⟩, hk b hb.1 hb.2.1⟩) h2⟩
 obtain ⟨k1, k2⟩ := h1
 refine ⟨k1, ?_⟩
 rcases k2 with k2 | ⟨g, cap, cur, e1, e2, e3, e4⟩
 . exact .inl k2
 . have := hlt g (by rw [e1]; rfl)
   exact .inr ⟨g, cap, cur, e1, e2, (hk g this.1 this.2).trans e3, e4⟩
theorem OBag.below {base : Nat} {w w' : World} {v : Value} {L : List Op} (h : OBag base w v L) (hb : Below w.heap.size w w') : OBag base w' v L := h.keep (fun b _ hb' => hb.block b hb') hb.size
theorem OBag.ops {base : Nat} {w : World} {v : Value} {L : List Op} (h : OBag base w v L) (hl : L.length <= 140737488351232) : ∃ A c, v = .slice A L.length c /\ OpsAt w A c L /\ (∀ a, A = some a -> base <= a.block) := by
 obtain ⟨cs, ⟨k1, k2⟩, h2⟩ := h
 rcases k2 with ⟨rfl, h0⟩ | ⟨g, cap, cur, rfl, e2, e3, e4, e5, e6, e7⟩
 . obtain rfl : L = [] := List.eq_nil_of_length_eq_zero h0
   exact ⟨none, 0, rfl, ⟨Nat.le_refl _, by simp, fun h => absurd h (by simp)⟩, fun a ha => (by cases ha)⟩
 . refine ⟨some ⟨g, 0, none⟩, cap, rfl, ⟨e4, hl, fun _ => ⟨g, 0, rfl, fun j hj => ?_⟩⟩, fun a ha => by cases ha; exact e2⟩
   obtain ⟨L', c', f1, f2⟩ := OC.get h2 j hj
   refine ⟨L', c', fun i hi => ?_, f2⟩
   rw [Nat.zero_add, cell_of e3, <- f1 i hi, <- e7, List.getElem?_take, if_pos (by omega), Array.getElem?_toList]
theorem ops_app {ops : Array Oper} {rest : List Oper} {o : Oper} {a : Act} {Q : Exit -> Act -> World -> Prop} {base : Nat} {w : World} {v : Value} {L : List Op} {x : Op} {A : Option Addr} {ca : Nat} (hgd : o.guard = none) (s y : Operand) (t : TypeId)
 (ho : o.op = .call { callee := .builtin .append, args := #[s, y], argTypes := #[t, t] }) (ht : Tryz.prog.underlying t = some (.slice 38))
 (hs : a.eval s = v) (n c : Nat) (hx : a.eval y = .slice (some ⟨w.heap.size, 0, none⟩) 1 c) (hbag : OBag base w v L)
 (hT : TxAt w A ca x.ls) (hA : 0 < x.ls.length -> ∀ ad, A = some ad -> base <= ad.block /\ ad.block < w.heap.size /\ some ad.block ≠ v.ownBlock) (hn : L.length = n) (hb : n <= 1000000) (hbase : base <= w.heap.size)
 (h : ∀ g cap w', OBag base w' (.slice (some ⟨g, 0, none⟩) (n + 1) cap) (L ++ [x]) -> Grew v w w' -> wpList Tryz.prog ops Q rest (a.put o.dst (.slice (some ⟨g, 0, none⟩) (n + 1) cap)) w') :
 wpList Tryz.prog ops Q (o :: rest) a (w.alloc (.cells (opCells x A ca) 38)) := by
 subst hn
 obtain ⟨iF, hiF, hzF, hsF, hbF⟩ := infoO
 have hbag' := hbag
 obtain ⟨cs, hown, hFC⟩ := hbag
 have hOx : OC (fun b => base <= b /\ b < w.heap.size /\ some b ≠ v.ownBlock) w [x] (opCells x A ca).toList := ⟨A, ca, [], by rw [List.append_nil], hT, hA, rfl⟩
 refine wpList_append_lies _ hgd s y t ho base 38 iF _ 6 64 ht hiF hzF hsF hbF rfl (by omega) v L.length cs hs (hown.alloc _) ⟨w.heap.size, 0, none⟩ 1 c (opCells x A ca).toList hx rfl (World.news_of_block (heap_alloc_at w _)) (OC.one hOx) (by omega) (by unfold maxLen; omega) (by omega) (by simp; omega) (w.heap.size + 1) (by simp) ?_
 intro g cap w' hown' hgrow hat hlt
 have hsz := hgrow.size
 rw [size_alloc] at hsz
 have hgr : w.grownBy w' v.ownBlock := ⟨hgrow.os, hgrow.tape, hgrow.output, by omega, fun k h1 h2 => (hgrow.block k (by rw [size_alloc]; omega) h2).trans (heap_alloc_lt w _ _ h1)⟩
 refine h g cap w' ⟨cs ++ (opCells x A ca).toList, by rw [List.length_append]; exact hown', ?_⟩ ⟨hgr.size, hgr.os, hgr.tape, hgr.output, hgr.block⟩
 refine OC.move (fun b hb => ⟨⟨hb.1, Nat.lt_of_lt_of_le hb.2.1 hgr.size, ?_⟩, hgr.block b hb.2.1 hb.2.2⟩) (OC.append hOx hFC)
 show some b ≠ some g
 intro e
 injection e with e
 subst e
 rcases hat with hv | hv
 . exact hb.2.2 hv.symm
 . have := hb.2.1; omega
end Go.Proofs.YtbiioaggilaebaaGreatDoor.Pa
namespace Go.Proofs.YtbiioaggilaebaaGreatDoor.Pa
open Go Go.RowKit Go.Shelf YtbiioaggilaebaaGreatDoorW.PrintWords B Tm Wi
attribute [local go_sem] Oper.semAt_some
structure OpX where
 o : Op
 L : Option Addr
 c : Nat
def OpX.cells (x : OpX) : Array Value := opCells x.o x.L x.c
def RowX (w : World) (A : Option Addr) (zs : List OpX) : Prop :=
 (0 < zs.length -> ∃ b o, A = some ⟨b, o, none⟩ /\ ∀ j (h : j < zs.length), ∀ i, i < 6 -> w.cell? ⟨b, o + j * 6 + i, none⟩ = (zs[j].cells)[i]?) /\ ∀ z ∈ zs, TxAt w z.L z.c z.o.ls
theorem OpsAt.rowX {w : World} {A : Option Addr} {c : Nat} {l : List Op} (h : OpsAt w A c l) : ∃ zs : List OpX, zs.map OpX.o = l /\ RowX w A zs := by
 obtain ⟨h1, h2, h3⟩ := h
 by_cases h0 : 0 < l.length
 . obtain ⟨b, o, rfl, hj⟩ := h3 h0
   have hx : ∀ j : Fin l.length, ∃ z : OpX, z.o = l[j.1] /\ (∀ i, i < 6 -> w.cell? ⟨b, o + j.1 * 6 + i, none⟩ = (z.cells)[i]?) /\ TxAt w z.L z.c z.o.ls := fun j => by
    obtain ⟨L, cl, hc, ht⟩ := hj j.1 j.2
    exact ⟨⟨l[j.1], L, cl⟩, rfl, hc, ht⟩
   obtain ⟨f, hf⟩ := Classical.skolem.1 hx
   refine ⟨List.ofFn f, ?_, fun _ => ⟨b, o, rfl, fun j hjl i hi => ?_⟩, fun z hz => ?_⟩
   . apply List.ext_getElem
     . simp
     . intro i a1 a2
       simp [(hf ⟨i, a2⟩).1]
   . rw [List.getElem_ofFn]
     exact (hf ⟨j, by simpa using hjl⟩).2.1 i hi
   . obtain ⟨j, rfl⟩ := List.mem_ofFn.1 hz
     exact (hf j).2.2
 . obtain rfl : l = [] := List.eq_nil_of_length_eq_zero (by omega)
   exact ⟨[], rfl, fun h => absurd h (by simp), fun z hz => (by cases hz)⟩
theorem RowX.below {w w' : World} {A : Option Addr} {zs : List OpX} (h : RowX w A zs) (hb : Below w.heap.size w w') : RowX w' A zs := by
 refine ⟨fun h0 => ?_, fun z hz => (h.2 z hz).below hb⟩
 obtain ⟨b, o, e, hc⟩ := h.1 h0
 refine ⟨b, o, e, fun j hj i hi => ?_⟩
 obtain ⟨v, hv⟩ := opCells_some zs[j].o zs[j].L zs[j].c i hi
 have h1 := hc j hj i hi
 unfold OpX.cells at h1 ⊢
 rw [hv] at h1 ⊢
 exact (hb.cell (World.block_lt_of_cell? w _ h1)).trans h1
theorem RowX.lt {w : World} {A : Option Addr} {zs : List OpX} (h : RowX w A zs) (h0 : 0 < zs.length) (a : Addr) (ha : A = some a) : a.block < w.heap.size := by
 obtain ⟨b, o, e, hc⟩ := h.1 h0
 rw [ha] at e
 cases e
 obtain ⟨v, hv⟩ := opCells_some zs[0].o zs[0].L zs[0].c 0 (by omega)
 have h1 := hc 0 h0 0 (by omega)
 unfold OpX.cells at h1
 rw [hv] at h1
 exact World.block_lt_of_cell? w _ h1
def backTo (n k : Nat) : List (Fin n) := ((List.finRange n).reverse).take k
theorem backTo_succ (n k : Nat) (h : k < n) : backTo n (k + 1) = backTo n k ++ [⟨n - 1 - k, by omega⟩] := by
 unfold backTo
 rw [List.take_succ_eq_append_getElem (by simpa using h)]
 congr 2
 rw [List.getElem_reverse]
 apply Fin.ext
 simp
theorem backTo_len (n k : Nat) (h : k <= n) : (backTo n k).length = k := by
 unfold backTo
 rw [List.length_take, List.length_reverse, List.length_finRange]
 omega
def Kps (K : Nat -> Prop) (W W' : World) : Prop := ∀ b, K b -> W'.heap[b]? = W.heap[b]?
theorem Kps.refl (K : Nat -> Prop) (W : World) : Kps K W W := fun _ _ => rfl
theorem Kps.trans {K : Nat -> Prop} {A B C : World} (h : Kps K A B) (k : Kps K B C) : Kps K A C := fun b hb => (k b hb).trans (h b hb)
theorem Kps.cell {K : Nat -> Prop} {A B : World} (h : Kps K A B) {b i : Nat} {v : Value} (hb : K b) (hc : A.cell? ⟨b, i, none⟩ = some v) : B.cell? ⟨b, i, none⟩ = some v := (World.cell?_of_block (a := ⟨b, i, none⟩) (h b hb)).trans hc
def encX (zs : List OpX) (j : Fin zs.length) : Array Value := #[.int .i64 j.1, .agg (zs[j.1].cells)]
theorem back1_in (F : Fence) (n : Nat) (h70 : F.fn 70) (hro : F.round = none) (hn : 1 <= n) (l Bs : Nat) (Kb : Nat -> Prop) (b off nz cap : Nat) (zs : List OpX) (hnz : zs.length = nz) (hreach : nz * 8 <= 140737488351232) (hb : Kb b) (J Jx : List (Fin zs.length) -> World -> Prop)
 (hY : ∀ pre x W, J pre W -> pre.length < zs.length -> YieldAt F (n - 1) Tryz.prog l (encX zs x) W fun e W' =>
  (e = .returned (.bool true) /\ J (pre ++ [x]) W' /\ Kps Kb W W') \/ (e = .returned (.bool false) /\ Jx (pre ++ [x]) W'))
 (W : World) (hBs : W.cell? ⟨Bs, 0, none⟩ = some (.slice (some ⟨b, off, none⟩) nz cap)) (hBl : Kb Bs) (hc : ∀ j (h : j < zs.length), ∀ i, i < 6 -> W.cell? ⟨b, off + j * 6 + i, none⟩ = (zs[j].cells)[i]?) (h0 : J [] W) :
 CallsIn F n Tryz.prog 70 #[.func (.yield l) #[] #[], .pointer (some ⟨Bs, 0, none⟩)] W fun e W' => (∃ v, e = .returned v) /\
  ((∃ ys, ys = (List.finRange zs.length).reverse /\ J ys W') \/ (∃ pre, True /\ Jx pre W')) := by
 refine callsIn_of_wp Tryz.func70 rfl h70 ?_ hro
 simp only [Tryz.ntmps70, List.size_toArray, List.length_cons, List.length_nil, Nat.reduceAdd, Nat.reduceSub, Array.replicate_succ, Array.replicate_zero, List.push_toArray, List.append_toArray, List.nil_append, List.cons_append]
 gi_wp2
 gi_loopw [3] (fun i wr => ∃ k : Nat, k <= nz /\ i = .int .i64 ((nz : Int) - 1 - k) /\ J (backTo zs.length k) wr /\ Kps Kb W wr)
  (fun i _ => (intOf i + 1).toNat)
 case atStart => exact ⟨0, Nat.zero_le _, by simp, h0, Kps.refl _ _⟩
 case round =>
  obtain ⟨k, hk, rfl, hJs, hnx⟩ := hrel
  have hBs' : wr.cell? ⟨Bs, 0, none⟩ = some (.slice (some ⟨b, off, none⟩) nz cap) := hnx.cell hBl hBs
  by_cases hlt : k < nz
  . obtain ⟨j, hj⟩ : ∃ j : Nat, (j : Int) = (nz : Int) - 1 - k := ⟨nz - 1 - k, by omega⟩
    have hjn : j < zs.length := by omega
    have hjn' : j < nz := by omega
    rw [<- hj]
    obtain ⟨z, hz⟩ : ∃ z, z = zs[j] := ⟨_, rfl⟩
    have hcx : ∀ i, i < 6 -> wr.cell? ⟨b, off + j * 6 + i, none⟩ = (z.cells)[i]? := fun i hi => by
     rw [hz]
     obtain ⟨v, hv⟩ := opCells_some zs[j].o zs[j].L zs[j].c i hi
     have h1 := hc j hjn i hi
     unfold OpX.cells at h1 ⊢
     rw [hv] at h1
     rw [hv]
     exact hnx.cell hb h1
    obtain ⟨⟨k0, a0, m0, b0, n0, ls0⟩, L0, cl0⟩ := z
    have c0 : wr.cell? ⟨b, off + j * 6, none⟩ = some (.int .i64 k0) := hcx 0 (by omega)
    have c1 : wr.cell? ⟨b, off + j * 6 + 1, none⟩ = some (.int .i64 a0) := hcx 1 (by omega)
    have c2 : wr.cell? ⟨b, off + j * 6 + 2, none⟩ = some (.int .i64 m0) := hcx 2 (by omega)
    have c3 : wr.cell? ⟨b, off + j * 6 + 3, none⟩ = some (.int .i64 b0) := hcx 3 (by omega)
    have c4 : wr.cell? ⟨b, off + j * 6 + 4, none⟩ = some (.int .i64 n0) := hcx 4 (by omega)
    have c5 : wr.cell? ⟨b, off + j * 6 + 5, none⟩ = some (.slice L0 ls0.length cl0) := hcx 5 (by omega)
    obtain ⟨fn, tmps, assign, body, hy, hR⟩ := hY _ ⟨j, hjn⟩ wr hJs (by rw [backTo_len _ _ (by omega)]; omega)
    have hbk := lh (show backTo zs.length k ++ [⟨j, hjn⟩] = backTo zs.length (k + 1) by rw [backTo_succ _ _ (by omega)]; congr 2; apply Fin.ext; show j = zs.length - 1 - k; omega)
    rw [hbk.out] at hR
    unfold encX at hy
    simp only [<- hz] at hy
    unfold OpX.cells opCells at hy
    dsimp only at hy
    replace hz := lh hz
    replace hj := lh hj
    clear hcx hJs
    have hnzH := lh hnz
    clear hnz
    gi_wp2
    refine hR.mono ?_
    rintro e W3 (⟨rfl, hJ3, hk3⟩ | ⟨rfl, hJx3⟩)
    . gi_wp2
      go_roundw
      case rel => exact ⟨k + 1, by omega, by have := hj.out; congr 1; omega, hJ3, hnx.trans hk3⟩
      case measure => simp [intOf]
    . gi_wp2
      refine bodyPost_ret (results_none rfl _ _ _) rfl ?_
      exact ⟨⟨_, rfl⟩, .inr ⟨_, trivial, hJx3⟩⟩
  . obtain rfl : k = nz := by omega
    have e1 : ((k : Int) - 1 - k) = -1 := by omega
    rw [e1]
    have hbk : backTo zs.length k = (List.finRange zs.length).reverse := by
     unfold backTo
     exact List.take_of_length_le (by rw [List.length_reverse, List.length_finRange]; omega)
    rw [hbk] at hJs
    clear hbk hnz
    gi_wp2
    go_end0
    exact ⟨⟨_, rfl⟩, .inl ⟨_, rfl, hJs⟩⟩
theorem back1_nil (F : Fence) (n : Nat) (h70 : F.fn 70) (hro : F.round = none) (l Bs cap : Nat) (A : Option Addr) (α : Type) (J : List α -> World -> Prop)
 (W : World) (hBs : W.cell? ⟨Bs, 0, none⟩ = some (.slice A 0 cap)) (h0 : J [] W) :
 CallsIn F n Tryz.prog 70 #[.func (.yield l) #[] #[], .pointer (some ⟨Bs, 0, none⟩)] W fun e W' => (∃ v, e = .returned v) /\ J [] W' := by
 refine callsIn_of_wp Tryz.func70 rfl h70 ?_ hro
 simp only [Tryz.ntmps70, List.size_toArray, List.length_cons, List.length_nil, Nat.reduceAdd, Nat.reduceSub, Array.replicate_succ, Array.replicate_zero, List.push_toArray, List.append_toArray, List.nil_append, List.cons_append]
 gi_wp2
 gi_loopw [3] (fun i wr => i = .int .i64 (-1) /\ J [] wr) (fun _ _ => 0)
 case atStart => exact ⟨rfl, h0⟩
 case round =>
  obtain ⟨rfl, hJs⟩ := hrel
  gi_wp2
  go_end0
  exact ⟨⟨_, rfl⟩, hJs⟩
theorem back_stops (F : Fence) (n : Nat) (h70 : F.fn 70) (hro : F.round = none) (hn : 1 <= n) (Bs cap : Nat) (A : Option Addr) (zs : List OpX) (Kb : Nat -> Prop) (w : World) (hBs : Bs < w.heap.size) (hBl : Kb Bs)
 (hc : w.cell? ⟨Bs, 0, none⟩ = some (.slice A zs.length cap)) (hreach : zs.length * 8 <= 140737488351232) (hR : RowX w A zs) (hA : 0 < zs.length -> ∀ a, A = some a -> Kb a.block /\ a.block < w.heap.size) :
 SeqStopsK F n Tryz.prog 70 #[.pointer (some ⟨Bs, 0, none⟩)] (encX zs) (Kps Kb) (fun ys => ys = (List.finRange zs.length).reverse) (fun _ => True) zs.length w := fun l J Jx W hW _ _ hY h0 => by
 have hc' := (hW.cell (p := ⟨Bs, 0, none⟩) hBs).trans hc
 by_cases hz : 0 < zs.length
 . obtain ⟨b, o, rfl, hcell⟩ := hR.1 hz
   have hb := hA hz _ rfl
   simp only at hb
   refine back1_in F n h70 hro hn l Bs Kb b o zs.length cap zs rfl hreach hb.1 J Jx hY W hc' hBl (fun j hj i hi => ?_) h0
   exact (hW.cell (p := ⟨b, o + j * 6 + i, none⟩) hb.2).trans (hcell j hj i hi)
 . have hz0 : zs.length = 0 := by omega
   have hnil : zs = [] := List.eq_nil_of_length_eq_zero hz0
   subst hnil
   refine (back1_nil F n h70 hro l Bs cap A _ J W hc' h0).mono ?_
   rintro e W' ⟨h1, h2⟩
   exact ⟨h1, .inl ⟨[], rfl, h2⟩⟩
end Go.Proofs.YtbiioaggilaebaaGreatDoor.Pa
namespace Go.Proofs.YtbiioaggilaebaaGreatDoor.Pa
open Go Go.RowKit YtbiioaggilaebaaGreatDoorW.PrintWords B Tm Wi
theorem setCell_self {w : World} {b i : Nat} {cs : Array Value} {t : TypeId} {v : Value} (h : w.heap[b]? = some (.cells cs t (0, 0))) (hv : cs[i]? = some v) : w.setCell ⟨b, i, none⟩ v = w := by
 have e : (w.setCell ⟨b, i, none⟩ v).heap = w.heap := by
  apply Array.ext'
  apply List.ext_getElem?
  intro j
  rw [Array.getElem?_toList, Array.getElem?_toList]
  by_cases hj : j = b
  . subst hj
    rw [heap_set w j i v cs t (0, 0) h, h]
    obtain ⟨hi, hv'⟩ := Array.getElem?_eq_some_iff.1 hv
    subst hv'
    congr 2
    apply Array.ext
    . simp
    . intro k k1 k2
      rw [Array.getElem_setIfInBounds]
      split
      . next hk => subst hk; rfl
      . rfl
  . exact heap_set_ne _ _ _ _ hj
 show { w with heap := (w.setCell ⟨b, i, none⟩ v).heap } = w
 rw [e]
def RdOk (w : World) (rb : Nat) : Prop := w.heap[rb]? = some (.cells #[.bool false] 88 (0, 0))
theorem RdOk.below {w w' : World} {rb : Nat} (h : RdOk w rb) (hb : Below w.heap.size w w') : RdOk w' rb := (hb.block _ (heap_lt h)).trans h
theorem RdOk.same {w : World} {rb : Nat} (h : RdOk w rb) : w.setCell ⟨rb, 0, none⟩ (.bool false) = w := setCell_self h rfl
theorem rd1 {W : World} {b : Nat} (h : RdOk W b) : W.cell? ⟨b, 0, none⟩ = some (.bool false) /\ W.shape? b = some (88, 1) /\ ∀ i, W.frozen? ⟨b, i, none⟩ = false :=
 ⟨by rw [cell_of h]; rfl, by unfold World.shape?; rw [h]; rfl, fun i => blk_frozen h i⟩
theorem items_ok (rb : Nat) (s : ByteArray) (A : Option Addr) (nl c : Nat) (n : Int) (hn : n = -1 \/ n = nl) (w : World) (hl : nl <= 140737488355328) :
 Calls Tryz.prog 53 #[.pointer (some ⟨rb, 0, none⟩), .agg #[.bool true, .string s, .slice A nl c], .int .i64 n] w fun e w' => e = .returned (.slice A nl c) /\ Below w.heap.size w w' := by
 obtain ⟨w1, hw1⟩ : ∃ w1, w1 = w.alloc (.cells #[.bool true, .string s, .slice A nl c] 74) := ⟨_, rfl⟩
 have hf1 := lh (show w1.heap[w.heap.size]? = some (.cells #[.bool true, .string s, .slice A nl c] 74 (0, 0)) by rw [hw1]; exact heap_alloc_at _ _)
 have hb1 := lh (show Below w.heap.size w w1 by rw [hw1]; exact Wi.below_alloc _ _)
 obtain ⟨p0, p1, p2, _, _⟩ := blk3' hf1.out
 rcases hn with rfl | rfl
 . go_enter Tryz.func53, Tryz.ntmps53
   go_upto_region 1 with fail
   rw [<- hw1]
   replace hw1 := lh hw1
   go_wp2_with fail
   go_ret
   exact ⟨rfl, hb1.out⟩
 . have e0 : (0 : Int) <= (nl : Int) := by omega
   go_enter Tryz.func53, Tryz.ntmps53
   go_upto_region 1 with fail
   rw [<- hw1]
   replace hw1 := lh hw1
   go_wp2_with fail
   go_ret
   exact ⟨rfl, hb1.out⟩
theorem text_ok (rb : Nat) (s : ByteArray) (A : Option Addr) (nl c : Nat) (w : World) (hr : RdOk w rb) :
 Calls Tryz.prog 54 #[.pointer (some ⟨rb, 0, none⟩), .agg #[.bool false, .string s, .slice A nl c]] w fun e w' => e = .returned (.string s) /\ Below w.heap.size w w' := by
 obtain ⟨w1, hw1⟩ : ∃ w1, w1 = w.alloc (.cells #[.bool false, .string s, .slice A nl c] 74) := ⟨_, rfl⟩
 have hf1 := lh (show w1.heap[w.heap.size]? = some (.cells #[.bool false, .string s, .slice A nl c] 74 (0, 0)) by rw [hw1]; exact heap_alloc_at _ _)
 have hb1 := lh (show Below w.heap.size w w1 by rw [hw1]; exact Wi.below_alloc _ _)
 have hr1 := lh (show RdOk w1 rb from hr.below hb1.out)
 have hsm := hr1.out.same
 obtain ⟨p0, p1, p2, _, _⟩ := blk3' hf1.out
 obtain ⟨q0, qsh, qfz⟩ := rd1 hr1.out
 clear hr
 go_enter Tryz.func54, Tryz.ntmps54
 go_upto_region 1 with fail
 rw [<- hw1]
 replace hw1 := lh hw1
 go_upto_region 2 with fail
 try rw [hsm]
 go_wp2_with fail
 go_ret
 exact ⟨rfl, hb1.out⟩
theorem num_ok (rb : Nat) (x : Int) (hx : -2 <= x /\ x <= 65536) (c : Nat) (A : Option Addr) (w : World) (hr : RdOk w rb) (he : Errs w) (htab : Tab w) :
 Calls Tryz.prog 56 #[.pointer (some ⟨rb, 0, none⟩), .agg #[.bool false, .string ⟨(Lib.itoa x).toArray⟩, .slice A 0 c]] w fun e w' => e = .returned (.int .i64 x) /\ Below w.heap.size w w' := by
 obtain ⟨t, ht⟩ : ∃ t : ByteArray, t = ⟨(Lib.itoa x).toArray⟩ := ⟨_, rfl⟩
 rw [<- ht]
 have hts : t.size <= 1000 := by rw [ht]; show (Lib.itoa x).toArray.size <= _; rw [List.size_toArray]; have := Lib.itoa_length_le x (by omega) (by omega); omega
 have ht' := lh (show t.data.toList = Lib.itoa x by rw [ht])
 replace ht := lh ht
 obtain ⟨w1, hw1⟩ : ∃ w1, w1 = w.alloc (.cells #[.bool false, .string t, .slice A 0 c] 74) := ⟨_, rfl⟩
 have hf1 := lh (show w1.heap[w.heap.size]? = some (.cells #[.bool false, .string t, .slice A 0 c] 74 (0, 0)) by rw [hw1]; exact heap_alloc_at _ _)
 have hb1 := lh (show Below w.heap.size w w1 by rw [hw1]; exact Wi.below_alloc _ _)
 have hr1 := lh (show RdOk w1 rb from hr.below hb1.out)
 have CN := lh (number_c false t A 0 c (-2) 65536 (by omega) (by omega) (by omega) (by omega) w1 (he.below hb1.out) (htab.below hb1.out (Nat.le_refl _)))
 obtain ⟨p0, p1, p2, _, _⟩ := blk3' hf1.out
 have hxH := lh hx
 clear hr he htab hx hts
 go_enter Tryz.func56, Tryz.ntmps56
 go_upto_region 1 with fail
 rw [<- hw1]
 replace hw1 := lh hw1
 go_wp2_with fail
 refine (CN.out).mono ?_
 rintro ev w2 ⟨y, er, rfl, hers, _, hsp, hb2⟩
 obtain ⟨rfl, rfl⟩ := hsp x hxH.out.1 hxH.out.2 rfl rfl ht'.out
 have hr2 := lh (hr1.out.below hb2)
 have hb2w := lh (hb1.out.trans (hb2.mono hb1.out.size))
 have hsm := hr2.out.same
 obtain ⟨q0, qsh, qfz⟩ := rd1 hr2.out
 clear hers hsp hb2
 go_upto_region 3 with fail
 try rw [hsm]
 go_wp2_with fail
 go_ret
 exact ⟨rfl, hb2w.out⟩
end Go.Proofs.YtbiioaggilaebaaGreatDoor.Pa
namespace Go.Proofs.YtbiioaggilaebaaGreatDoor.Pa
open Go Go.RowKit YtbiioaggilaebaaGreatDoorW.PrintWords B Tm Wi
theorem FKs.txt_at {ok : Nat -> Prop} {w : World} {A : Option Addr} {l : List F} (h : FKs ok w A 0 l) (k : Nat) (t : List UInt8) (hk : l[k]? = some (txt t)) : ∃ b o A' c', A = some ⟨b, o, none⟩ /\ ok b /\ w.cell? ⟨b, o + k * 3, none⟩ = some (.bool false) /\ w.cell? ⟨b, o + k * 3 + 1, none⟩ = some (.string ⟨t.toArray⟩) /\ w.cell? ⟨b, o + k * 3 + 2, none⟩ = some (.slice A' 0 c') := by
 obtain ⟨b, o, c0, c1, c2, e1, e2, e3, e4, e5, e6⟩ := FKs.get l 0 h k _ hk
 rw [Nat.zero_add] at e3 e4 e5
 unfold txt FK at e6
 obtain ⟨A', c', f1, _⟩ := e6
 simp only [List.cons.injEq, and_true] at f1
 obtain ⟨rfl, rfl, rfl⟩ := f1
 exact ⟨b, o, A', c', e1, e2, e3, e4, e5⟩
theorem FKs.lst_at {ok : Nat -> Prop} {w : World} {A : Option Addr} {l : List F} (h : FKs ok w A 0 l) (k : Nat) (g : List F) (hk : l[k]? = some (lst g)) : ∃ b o A' c', A = some ⟨b, o, none⟩ /\ ok b /\ w.cell? ⟨b, o + k * 3, none⟩ = some (.bool true) /\ w.cell? ⟨b, o + k * 3 + 1, none⟩ = some (.string ⟨#[]⟩) /\ w.cell? ⟨b, o + k * 3 + 2, none⟩ = some (.slice A' g.length c') /\ FKs ok w A' 0 g := by
 obtain ⟨b, o, c0, c1, c2, e1, e2, e3, e4, e5, e6⟩ := FKs.get l 0 h k _ hk
 rw [Nat.zero_add] at e3 e4 e5
 unfold lst FK at e6
 obtain ⟨A', c', f1, _, _, f2⟩ := e6
 simp only [List.cons.injEq, and_true] at f1
 obtain ⟨rfl, rfl, rfl⟩ := f1
 exact ⟨b, o, A', c', e1, e2, e3, e4, e5, f2⟩
theorem texts_ok (rb : Nat) (s : ByteArray) (A : Option Addr) (c : Nat) (l : List ByteArray) (ok : Nat -> Prop) (w : World) (hr : RdOk w rb) (hF : FKs ok w A 0 (lhave l)) (hn : l.length <= 100000) (hsz : ∀ x ∈ l, x.size <= 140737488351232) :
 Calls Tryz.prog 55 #[.pointer (some ⟨rb, 0, none⟩), .agg #[.bool true, .string s, .slice A l.length c]] w fun e w' => ∃ D dc, e = .returned (.slice D l.length dc) /\ TxAt w' D dc l /\ (∀ a, D = some a -> w.heap.size <= a.block /\ a.block < w'.heap.size) /\ Below w.heap.size w w' := by
 obtain ⟨n, hN⟩ : ∃ n, n = l.length := ⟨_, rfl⟩
 rw [<- hN] at hn ⊢
 replace hN := lh hN
 obtain ⟨w1, hw1⟩ : ∃ w1, w1 = w.alloc (.cells #[.bool true, .string s, .slice A n c] 74) := ⟨_, rfl⟩
 have hf1 := lh (show w1.heap[w.heap.size]? = some (.cells #[.bool true, .string s, .slice A n c] 74 (0, 0)) by rw [hw1]; exact heap_alloc_at _ _)
 have hb1 := lh (show Below w.heap.size w w1 by rw [hw1]; exact Wi.below_alloc _ _)
 have hrH := lh hr
 have hFH := lh hF
 have hszH := lh hsz
 have hnH := lh hn
 have CI := lh (items_ok rb s A n c (-1) (.inl rfl) w1 (by omega))
 obtain ⟨p0, p1, p2, _, _⟩ := blk3' hf1.out
 clear hr hF hsz
 go_enter Tryz.func55, Tryz.ntmps55
 go_upto_region 1 with fail
 rw [<- hw1]
 replace hw1 := lh hw1
 go_upto_region 2 with fail
 go_wp2_with fail
 refine (CI.out).mono ?_
 rintro ev w2 ⟨rfl, hb2⟩
 have hb2w := lh (hb1.out.trans (hb2.mono hb1.out.size))
 clear hb2 p0 p1 p2 CI
 go_upto_region 3 with fail
 go_loopg [5, 12] n (fun g' v5 i W => ∃ (k : Nat) (v : Value), g' = n - k /\ k <= n /\ v5 = v /\ i = .int .i64 k /\ StrRow w2.heap.size W v (l.take k) /\ Below w2.heap.size w2 W)
 case atStart => exact ⟨0, .slice none 0 0, by omega, by omega, rfl, rfl, StrRow.nil _ _, Below.refl _ _⟩
 case round =>
  obtain ⟨k, v, hg', hk, rfl, rfl, hrow, hbr⟩ := hrel
  subst hg'
  have hrowH := lh hrow
  have hbrH := lh hbr
  have hbw := lh (hb2w.out.trans (hbr.mono hb2w.out.size))
  by_cases hkn : k < n
  . have hki : (k : Int) < (n : Int) := by omega
    have hkl : k < l.length := by rw [<- hN.out]; exact hkn
    obtain ⟨x, hx⟩ : ∃ x, x = l[k] := ⟨_, rfl⟩
    obtain ⟨b, o, A', c', rfl, _, i0, i1, i2⟩ := FKs.txt_at hFH.out k x.data.toList (by unfold lhave; rw [List.getElem?_map, List.getElem?_eq_getElem hkl, hx]; rfl)
    replace i0 := keepc hbw.out i0
    replace i1 := keepc hbw.out i1
    replace i2 := keepc hbw.out i2
    rw [show (⟨x.data.toList.toArray⟩ : ByteArray) = x from rfl] at i1
    have hnext := lh (show l.take (k + 1) = l.take k ++ [x] by rw [hx]; exact List.take_succ_eq_append_getElem hkl)
    have hlen := lh (show (l.take k).length = k by rw [List.length_take]; omega)
    replace hx := lh hx
    obtain ⟨Q, hQ⟩ : ∃ Q, Q = wr.heap.size := ⟨_, rfl⟩
    obtain ⟨W1, hW1⟩ : ∃ W1, W1 = wr.alloc (.cells #[.bool false, .string x, .slice A' 0 c'] 74) := ⟨_, rfl⟩
    have hq1 := lh (show W1.heap[Q]? = some (.cells #[.bool false, .string x, .slice A' 0 c'] 74 (0, 0)) by rw [hW1, hQ]; exact heap_alloc_at _ _)
    have hbW1 := lh (show Below wr.heap.size wr W1 by rw [hW1]; exact Wi.below_alloc _ _)
    have hbW1w := lh (hbw.out.trans (hbW1.out.mono hbw.out.size))
    have CT := lh (text_ok rb x A' 0 c' W1 (hrH.out.below hbW1w.out))
    obtain ⟨z0, z1, z2, _, _⟩ := blk3' hq1.out
    clear hrow hbr
    go_upto_region 5 with fail
    rw [<- hW1, <- hQ]
    replace hW1 := lh hW1
    replace hQ := lh hQ
    go_wp2_with fail
    refine (CT.out).mono ?_
    rintro ev W2 ⟨rfl, hbW2⟩
    have hbW2H := lh (hbW1.out.trans (hbW2.mono hbW1.out.size))
    have hrow2 := lh (hrowH.out.keep (W' := W2) (fun b _ h2 => hbW2H.out.block b h2))
    have hbase := lh (show w2.heap.size <= W2.heap.size from Nat.le_trans hbrH.out.size hbW2H.out.size)
    clear hbW2 z0 z1 z2 i0 i1 i2 CT
    go_wp2_with (at_builtin; refine str_app (by rfl) _ _ _ (by rfl) Tryz.underlying22 (by rfl) k 1 (by rfl) hrow2.out hlen.out (by omega) hbase.out ?_; intro g7 cap7 w7 hrow7 hgrew7; have hrow7H := lh hrow7; have hgrew7H := lh hgrew7; clear hrow7 hgrew7)
    go_roundg (n - (k + 1))
    case measure => omega
    case rel =>
     refine ⟨k + 1, .slice (some ⟨g7, 0, none⟩) (k + 1) cap7, rfl, by omega, rfl, by go_num, ?_, ?_⟩
     . rw [hnext.out]; exact hrow7H.out
     . exact hgrew7H.out.below (hbrH.out.trans (hbW2H.out.mono hbrH.out.size)) hbase.out (fun b hb => (hrow2.out.lt b hb).1)
  . have hkn' : k = n := by omega
    subst hkn'
    have hki : ¬ (k : Int) < (k : Int) := by omega
    have ht : l.take k = l := List.take_of_length_le (by rw [<- hN.out]; exact Nat.le_refl _)
    rw [ht] at hrow
    obtain ⟨D, dc, rfl, h1, h2, h3⟩ := hrow.read
    have hfin := lh (show TxAt wr D dc l /\ (∀ a, D = some a -> w.heap.size <= a.block /\ a.block < wr.heap.size) from
     ⟨⟨h2, h1, by rw [<- hN.out]; have := hnH.out; omega, hszH.out⟩, fun a ha => ⟨Nat.le_trans hb2w.out.size (h3 a ha), by
      have := hrow.lt a.block (by
       subst ha
       obtain ⟨k1, k2⟩ := hrow
       rcases k2 with ⟨e, _⟩ | ⟨g, cap, cur, e, _⟩
       . cases e
       . cases e; rfl)
      exact this.2⟩⟩)
    have hNo := lh hN.out
    clear hrow hbr h1 h2 h3 ht
    rw [<- hNo.out]
    go_wp2_with fail
    go_ret
    exact ⟨D, dc, rfl, hfin.out.1, hfin.out.2, hbw.out⟩
end Go.Proofs.YtbiioaggilaebaaGreatDoor.Pa
namespace Go.Proofs.YtbiioaggilaebaaGreatDoor.Pa
open Go Go.RowKit YtbiioaggilaebaaGreatDoorW.PrintWords B Tm Wi
theorem set2 {w : World} {g : Nat} {a b x y : Value} {t : TypeId} (h : w.heap[g]? = some (.cells #[a, b] t (0, 0))) :
 ((w.setCell ⟨g, 0, none⟩ x).setCell ⟨g, 1, none⟩ y).heap[g]? = some (.cells #[x, y] t (0, 0)) := by
 have h1 := heap_set w g 0 x _ t _ h
 have h2 := heap_set _ g 1 y _ t _ h1
 exact h2
theorem ref_ok (rb : Nat) (s : ByteArray) (A : Option Addr) (c : Nat) (x y : Int) (hx : -2 <= x /\ x <= 65536) (hy : -2 <= y /\ y <= 65536) (ok : Nat -> Prop) (w : World) (hr : RdOk w rb) (he : Errs w) (htab : Tab w) (hgB : 2 < w.heap.size) (hF : FKs ok w A 0 [nform x, nform y]) :
 Calls Tryz.prog 57 #[.pointer (some ⟨rb, 0, none⟩), .agg #[.bool true, .string s, .slice A 2 c]] w fun e w' => e = .returned (.agg #[.int .i64 x, .int .i64 y]) /\ Below w.heap.size w w' := by
 obtain ⟨b, o, A0, c0, rfl, _, i0, i1, i2⟩ := FKs.txt_at hF 0 (Lib.itoa x) rfl
 obtain ⟨b', o', A1, c1, e, _, j0, j1, j2⟩ := FKs.txt_at hF 1 (Lib.itoa y) rfl
 cases e
 rw [Nat.zero_mul, Nat.add_zero] at i0 i1 i2
 rw [Nat.one_mul] at j0 j1 j2
 obtain ⟨w1, hw1⟩ : ∃ w1, w1 = w.alloc (.cells #[.bool true, .string s, .slice (some ⟨b, o, none⟩) 2 c] 74) := ⟨_, rfl⟩
 obtain ⟨w2, hw2⟩ : ∃ w2, w2 = w1.alloc (.cells #[.int .i64 0, .int .i64 0] 36) := ⟨_, rfl⟩
 have hs1 : w1.heap.size = w.heap.size + 1 := by rw [hw1]; simp
 have hf2 := lh (show w2.heap[w.heap.size]? = some (.cells #[.bool true, .string s, .slice (some ⟨b, o, none⟩) 2 c] 74 (0, 0)) by rw [hw2, heap_alloc_lt _ _ _ (by omega), hw1]; exact heap_alloc_at _ _)
 have hR2 := lh (show w2.heap[w.heap.size + 1]? = some (.cells #[.int .i64 0, .int .i64 0] 36 (0, 0)) by rw [hw2, <- hs1]; exact heap_alloc_at _ _)
 have hb2 := lh (show Below w.heap.size w w2 by rw [hw2, hw1]; exact ((Below.refl _ _).alloc (Nat.le_refl _) _).alloc (by simp) _)
 have CI := lh (items_ok rb s (some ⟨b, o, none⟩) 2 c 2 (.inr rfl) w2 (by omega))
 have hrH := lh hr
 have heH := lh he
 have htabH := lh htab
 have hgBH := lh hgB
 have hxH := lh hx
 have hyH := lh hy
 obtain ⟨p0, p1, p2, _, _⟩ := blk3' hf2.out
 have hc := lh (show (w.cell? ⟨b, o, none⟩ = some (.bool false) /\ w.cell? ⟨b, o + 1, none⟩ = some (.string ⟨(Lib.itoa x).toArray⟩) /\ w.cell? ⟨b, o + 2, none⟩ = some (.slice A0 0 c0)) /\ w.cell? ⟨b, o + 3, none⟩ = some (.bool false) /\ w.cell? ⟨b, o + 4, none⟩ = some (.string ⟨(Lib.itoa y).toArray⟩) /\ w.cell? ⟨b, o + 5, none⟩ = some (.slice A1 0 c1) from ⟨⟨i0, i1, i2⟩, j0, j1, j2⟩)
 clear hr he htab hgB hF hx hy i0 i1 i2 j0 j1 j2
 obtain ⟨S, hS⟩ : ∃ S : World -> Prop, S = fun W => Below w.heap.size w W := ⟨_, rfl⟩
 have hSi : ∀ W, S W ↔ Below w.heap.size w W := fun W => by rw [hS]
 have s1 : ∀ X : InS S, X.val.cell? ⟨b, o, none⟩ = some (.bool false) := fun X => keepc ((hSi X.val).1 X.mem) hc.out.1.1
 have s2 : ∀ X : InS S, X.val.cell? ⟨b, o + 1, none⟩ = some (.string ⟨(Lib.itoa x).toArray⟩) := fun X => keepc ((hSi X.val).1 X.mem) hc.out.1.2.1
 have s3 : ∀ X : InS S, X.val.cell? ⟨b, o + 2, none⟩ = some (.slice A0 0 c0) := fun X => keepc ((hSi X.val).1 X.mem) hc.out.1.2.2
 have s4 : ∀ X : InS S, X.val.cell? ⟨b, o + 3, none⟩ = some (.bool false) := fun X => keepc ((hSi X.val).1 X.mem) hc.out.2.1
 have s5 : ∀ X : InS S, X.val.cell? ⟨b, o + 4, none⟩ = some (.string ⟨(Lib.itoa y).toArray⟩) := fun X => keepc ((hSi X.val).1 X.mem) hc.out.2.2.1
 have s6 : ∀ X : InS S, X.val.cell? ⟨b, o + 5, none⟩ = some (.slice A1 0 c1) := fun X => keepc ((hSi X.val).1 X.mem) hc.out.2.2.2
 have hSiH := lh hSi
 clear hS hSi
 go_enter Tryz.func57, Tryz.ntmps57
 go_upto_region 1 with fail
 rw [<- hw1]
 try rw [hs1]
 rw [<- hw2]
 replace hw1 := lh hw1
 replace hw2 := lh hw2
 replace hs1 := lh hs1
 go_wp2_with fail
 refine (CI.out).mono ?_
 rintro ev w3 ⟨rfl, hb3⟩
 have hb3w := lh (hb2.out.trans (hb3.mono hb2.out.size))
 have hR3 := lh ((hb3.block _ (heap_lt hR2.out)).trans hR2.out)
 have hS0 := lh (show S w3.drew from (hSiH.out _).2 hb3w.out.drew)
 have hne : Nonempty (InS S) := ⟨⟨w3.drew, hS0.out⟩⟩
 clear hb3 p0 p1 p2 CI
 go_upto_region 2 with fail
 refine wp_region_mix S [0, 1, 2, 3, 5, 6, 7, 8] [.mem [0, 1, 2, 3, 5, 6, 7, 8], .keep 4, .keep 9, .pure [10], .last 11] (by kernel_rfl) (by kernel_rfl) hS0.out ?_
 simp only [pick, List.getD_cons_zero, List.getD_cons_succ, wpMix]
 repeat (go_big_quiet_step (fail))
 refine wpQuiet_nil ?_
 clear s1 s2 s3 s4 s5 s6
 have hbd := lh (show Below w.heap.size w w3.drew from hb3w.out.drew)
 have hRd := lh (show w3.drew.heap[w.heap.size + 1]? = some (.cells #[.int .i64 0, .int .i64 0] 36 (0, 0)) from hR3.out)
 go_wp2_with (go_at_call 56; (with_reducible refine (num_ok rb x hxH.out c0 A0 _ (hrH.out.below hbd.out) (heH.out.below hbd.out) (htabH.out.keep hbd.out hgBH.out)).mono ?_); rintro ev w4 ⟨rfl, hb4⟩)
 have hb4w := lh (hbd.out.trans (hb4.mono hbd.out.size))
 have hR4 := lh ((hb4.block _ (heap_lt hRd.out)).trans hRd.out)
 clear hb4
 refine ⟨(hSiH.out _).2 hb4w.out, ?_⟩
 go_wp2_with (go_at_call 56; (with_reducible refine (num_ok rb y hyH.out c1 A1 _ (hrH.out.below hb4w.out) (heH.out.below hb4w.out) (htabH.out.keep hb4w.out hgBH.out)).mono ?_); rintro ev w5 ⟨rfl, hb5⟩)
 have hb5w := lh (hb4w.out.trans (hb5.mono hb4w.out.size))
 have hR5 := lh ((hb5.block _ (heap_lt hR4.out)).trans hR4.out)
 clear hb5
 refine ⟨(hSiH.out _).2 hb5w.out, ?_⟩
 repeat (go_big_quiet_step (fail))
 refine wpQuiet_nil ?_
 obtain ⟨e0, e1, esh, efz⟩ := two_facts hR5.out
 go_wp2_with fail
 simp only [stepPost]
 go_wp2_with fail
 (try simp only [Exit.inBlock, Exit.then])
 refine bodyPost_ret (results_cell_row rfl _ _ (w.heap.size + 1) 36 #[.int .i64 x, .int .i64 y] (0, 0) _ rfl (set2 hR5.out) Tryz.underlying36 rfl (by kernel_rfl)) rfl ?_
 exact ⟨rfl, (hb5w.out.setCell (Nat.le_succ _) _).setCell (Nat.le_succ _) _⟩
end Go.Proofs.YtbiioaggilaebaaGreatDoor.Pa
namespace Go.Proofs.YtbiioaggilaebaaGreatDoor.Pa
open Go Go.RowKit YtbiioaggilaebaaGreatDoorW.PrintWords B Tm Wi
def undoB : ByteArray := ⟨#[117, 110, 100, 111]⟩
def QAt (W : World) (q : Nat) (v : Value) : Prop := W.heap[q]? = some (.cells #[.string undoB, v, .slice none 0 0] 25 (0, 0))
def dp (deps : List ByteArray) (a : Int) : List ByteArray := if 0 <= a then [deps.getD a.toNat ByteArray.empty] else []
theorem srow_ne {base : Nat} {w : World} {v : Value} {l : List ByteArray} {q : Nat} {u : Value} (h : StrRow base w v l) (hq : QAt w q u) : some q ≠ v.ownBlock := by
 intro e
 rcases h.2 with ⟨rfl, _⟩ | ⟨g, cap, cur, rfl, _, e3, _⟩
 . cases e
 . cases e
   unfold QAt at hq
   rw [hq] at e3
   cases e3
theorem srow_keep {base : Nat} {w w' : World} {v : Value} {l : List ByteArray} (h : StrRow base w v l) (hk : ∀ b, v.ownBlock = some b -> w'.heap[b]? = w.heap[b]?) : StrRow base w' v l := by
 obtain ⟨k1, k2⟩ := h
 refine ⟨k1, ?_⟩
 rcases k2 with k2 | ⟨g, cap, cur, rfl, e2, e3, e4⟩
 . exact .inl k2
 . exact .inr ⟨g, cap, cur, rfl, e2, (hk g rfl).trans e3, e4⟩
def Coll (base q : Nat) (l : List ByteArray) (w : World) (e : Ending) (w' : World) : Prop :=
 e = .returned (.tuple #[]) /\ ∃ v, QAt w' q v /\ StrRow base w' v l /\ Below base w w'
theorem collect_c (rb ri q g base : Nat) (a : Int) (note : ByteArray) (D : Option Addr) (dc : Nat) (deps : List ByteArray) (A : Option Addr) (no ac : Nat) (v : Value) (l : List ByteArray) (w : World)
 (hr : w.cell? ⟨rb, ri, none⟩ = some (.int .i64 a)) (hrb : rb < base) (ha : a < deps.length) (hQ : QAt w q v) (hq : base <= q) (hP : PatAt w g note D deps.length dc A no ac) (hg : g < base)
 (hT : TxAt w D dc deps) (hD : ∀ ad, D = some ad -> 0 < deps.length -> ad.block < base) (hrow : StrRow base w v l) (hl : l.length <= 100000) (hbase : base <= w.heap.size) :
 Calls Tryz.prog 31 #[.pointer (some ⟨rb, ri, none⟩), .pointer (some ⟨q, 0, none⟩), .pointer (some ⟨g, 0, none⟩)] w (Coll base q (l ++ dp deps a) w) := by
 obtain ⟨nd, hnd⟩ : ∃ nd, nd = deps.length := ⟨_, rfl⟩
 obtain ⟨nl, hnl⟩ : ∃ nl, nl = l.length := ⟨_, rfl⟩
 rw [<- hnd] at ha hP
 rw [<- hnl] at hl
 have hQH := lh hQ
 have hPH := lh hP
 have hrowH := lh hrow
 have hndH := lh hnd
 have hnlH := lh hnl
 have hTH := lh hT
 have hDH := lh hD
 have hrH := lh hr
 by_cases h0 : 0 <= a
 . obtain ⟨k, rfl⟩ : ∃ k : Nat, a = k := ⟨a.toNat, by omega⟩
   have hkn : k < nd := by omega
   have hki : (k : Int) < (nd : Int) := by omega
   obtain ⟨d, hd⟩ : ∃ d, d = deps.getD k ByteArray.empty := ⟨_, rfl⟩
   have hdp := lh (show l ++ dp deps (k : Int) = l ++ [d] by unfold dp; rw [if_pos h0, hd]; rfl)
   obtain ⟨Db, Do, rfl, hcell⟩ := str_cell hT.1 k (by rw [<- hndH.out]; exact hkn)
   rw [<- hd] at hcell
   replace hd := lh hd
   have hDb := lh (hD _ rfl (by have := hndH.out; omega))
   rw [hdp.out]
   obtain ⟨q0, q1, q2, _, _⟩ := blk3' hQH.out
   obtain ⟨p0, p1, p2, _, _⟩ := blk3' hPH.out
   have hown := lh (show ∀ b, b < base -> some b ≠ v.ownBlock from fun b hb e => by have := (hrowH.out.lt b e.symm).1; omega)
   have hqo := lh (srow_ne hrow hQ)
   obtain ⟨S, hS⟩ : ∃ S : World -> Prop, S = fun W => ∀ b, b < w.heap.size -> some b ≠ v.ownBlock -> W.heap[b]? = w.heap[b]? := ⟨_, rfl⟩
   have hSi : ∀ W, S W ↔ ∀ b, b < w.heap.size -> some b ≠ v.ownBlock -> W.heap[b]? = w.heap[b]? := fun W => by rw [hS]
   have sc : ∀ (X : InS S) (b i : Nat) (u : Value), some b ≠ v.ownBlock -> w.cell? ⟨b, i, none⟩ = some u -> X.val.cell? ⟨b, i, none⟩ = some u := fun X b i u hb h => (World.cell?_of_block (a := ⟨b, i, none⟩) ((hSi X.val).1 X.mem b (World.block_lt_of_cell? w _ h) hb)).trans h
   have s0 : ∀ X : InS S, X.val.cell? ⟨q, 1, none⟩ = some v := fun X => sc X _ _ _ hqo.out q1
   have s1 : ∀ X : InS S, X.val.cell? ⟨g, 1, none⟩ = some (.slice (some ⟨Db, Do, none⟩) nd dc) := fun X => sc X _ _ _ (hown.out _ hg) p1
   have s2 : ∀ X : InS S, X.val.cell? ⟨rb, ri, none⟩ = some (.int .i64 k) := fun X => sc X _ _ _ (hown.out _ hrb) hr
   have s3 : ∀ X : InS S, X.val.cell? ⟨Db, Do + k, none⟩ = some (.string d) := fun X => sc X _ _ _ (hown.out _ hDb.out) hcell
   have hSiH := lh hSi
   have hS0 := lh (show S w.drew from (hSi _).2 (fun _ _ _ => rfl))
   have hne : Nonempty (InS S) := ⟨⟨w.drew, hS0.out⟩⟩
   clear hS hSi sc hQ hP hrow hT hD hnd hnl hcell q0 q1 q2 p0 p1 p2
   go_enter Tryz.func31, Tryz.ntmps31
   go_upto_region 1 with fail
   clear hr
   refine wp_region_mix S [0, 1, 2, 3, 4, 5, 6, 7, 8, 9] [.mem [0, 1, 2, 3, 4, 5, 6, 7, 8, 9], .keep 10, .keep 11, .pure [12], .last 13] (by kernel_rfl) (by kernel_rfl) hS0.out ?_
   simp only [pick, List.getD_cons_zero, List.getD_cons_succ, wpMix]
   repeat (go_big_quiet_step (fail))
   refine wpQuiet_nil ?_
   clear s0 s1 s2 s3
   obtain ⟨wd, hwd⟩ : ∃ wd, wd = w.drew := ⟨_, rfl⟩
   have yd := lh (show ∀ b : Nat, wd.heap[b]? = w.heap[b]? from fun b => by rw [hwd]; rfl)
   have zd := lh (show wd.heap.size = w.heap.size by rw [hwd]; rfl)
   have bd := lh (show Below base w wd by rw [hwd]; exact (Below.refl _ _).drew)
   rw [<- hwd]
   replace hwd := lh hwd
   go_wp2_with fail
   refine ⟨(hSiH.out _).2 (fun b hb _ => (heap_alloc_lt _ _ _ (by rw [zd.out]; exact hb)).trans (yd.out b)), ?_⟩
   have hrowd := lh (srow_keep (w' := wd) hrowH.out (fun b _ => yd.out b))
   have hbd := lh (show base <= wd.heap.size by rw [zd.out]; exact hbase)
   go_wp2_with (at_builtin; refine str_app (by rfl) _ _ _ (by rfl) Tryz.underlying22 (by rfl) nl 1 (by rfl) hrowd.out hnlH.out.symm (by omega) hbd.out ?_; intro g7 cap7 w7 hrow7 hgrew7)
   have hrow7H := lh hrow7
   have hgrew7H := lh hgrew7
   have hQ7 := lh (hgrew7.heap ((yd.out q).trans hQH.out) hqo.out)
   clear hrow7 hgrew7
   refine ⟨(hSiH.out _).2 (fun b hb hb' => (hgrew7H.out.2.2.2.2 b (by rw [zd.out]; exact hb) hb').trans (yd.out b)), ?_⟩
   obtain ⟨e0, e1, e2, esh, efz⟩ := blk3' hQ7.out
   repeat (go_big_quiet_step (fail))
   refine wpQuiet_nil ?_
   go_wp2_with fail
   simp only [stepPost]
   go_wp2_with fail
   go_end0
   have hq7 := srow_ne hrow7H.out hQ7.out
   refine ⟨rfl, _, heap_set _ _ _ _ _ _ _ hQ7.out, srow_keep hrow7H.out (fun b hb => heap_set_ne _ _ _ _ (fun e => hq7 (by subst e; exact hb.symm))), (hgrew7H.out.below bd.out hbd.out (fun k hk => (hrowH.out.lt k hk).1)).setCell hq _⟩
 . have hdp := lh (show l ++ dp deps a = l by unfold dp; rw [if_neg h0, List.append_nil])
   rw [hdp.out]
   clear hQ hP hrow hT hD hnd hnl
   go_enter Tryz.func31, Tryz.ntmps31
   go_wp2_with fail
   go_end0
   exact ⟨rfl, v, hQH.out, hrowH.out, Below.refl _ _⟩
end Go.Proofs.YtbiioaggilaebaaGreatDoor.Pa
