/- What LawPatchInverse lean on, part y of 29: the texts PcF, PcD, PcE, PcH, PcJ, PcK, PcP. -/
import Derived.Test.YtbiioaggilaebaaGreatDoorTX0
import Derived.Test.YtbiioaggilaebaaGreatDoorTXf
import Derived.Test.YtbiioaggilaebaaGreatDoorTXq
import Derived.Test.YtbiioaggilaebaaGreatDoorTXu
import Derived.Test.YtbiioaggilaebaaGreatDoorTXw
import Derived.Test.YtbiioaggilaebaaGreatDoorTXx
import Derived.Maps.OwnIn
import Derived.Laws.EntriesVeiled
set_option linter.all false
set_option maxRecDepth 100000
set_option maxHeartbeats 16000000
namespace Go.Proofs.YtbiioaggilaebaaGreatDoor.Pa
open Go Go.RowKit Go.Sort YtbiioaggilaebaaGreatDoorW.PrintWords B Tm Wi
def toL (l : List ByteArray) : List (List UInt8) := l.map fun s => s.data.toList
def ofL (ss : List (List UInt8)) : List ByteArray := ss.map fun s => ⟨s.toArray⟩
theorem ofL_toL (l : List ByteArray) : ofL (toL l) = l := by
 unfold ofL toL
 rw [List.map_map]
 conv => rhs; rw [<- List.map_id l]
 rfl
theorem ofL_len (ss : List (List UInt8)) : (ofL ss).length = ss.length := by unfold ofL; simp
theorem toL_len (l : List ByteArray) : (toL l).length = l.length := by unfold toL; simp
theorem heap_map (w : World) (blk : Nat) (f : Array Value -> Array Value) (cur : Array Value) (t : TypeId) (fr : Nat × Nat) (h : w.heap[blk]? = some (.cells cur t fr)) : (mapBlock w blk f).heap[blk]? = some (.cells (f cur) t fr) := by
 unfold mapBlock
 simp only [Array.getElem?_modify, if_true, h]
 rfl
theorem heap_map_ne (w : World) (blk : Nat) (f : Array Value -> Array Value) (k : Nat) (hk : k ≠ blk) : (mapBlock w blk f).heap[k]? = w.heap[k]? := by
 unfold mapBlock
 simp only [Array.getElem?_modify]
 rw [if_neg (fun e => hk e.symm)]
theorem heap_map_size (w : World) (blk : Nat) (f : Array Value -> Array Value) : (mapBlock w blk f).heap.size = w.heap.size := by
 unfold mapBlock
 simp
theorem row_put {base : Nat} {w W : World} {g n cap n' q : Nat} {cur : Array Value} {os : Array Obj} {ss : List (List UInt8)} {l : List ByteArray} (hb : base <= g) (hg : w.heap[g]? = some (.cells cur 9 (0, 0))) (hn : n <= cap) (hcap : cap <= maxLen) (hsz : cur.size = cap * 1)
 (hss : ss.length = n) (hn' : n' <= n) (hl : l.length = n') (htake : ss.take n' = toL l) (hW : W = grow (putRow encStr (Sort.ahead w q) g 0 ss.toArray) os) :
 StrRow base W (.slice (some ⟨g, 0, none⟩) n' cap) l /\ Grew (.slice (some ⟨g, 0, none⟩) n cap) w W := by
 have hgl := heap_lt hg
 have h1 : (putRow encStr (Sort.ahead w q) g 0 ss.toArray).heap[g]? = some (.cells (putCells encStr 0 ss.toArray cur) 9 (0, 0)) := heap_map _ _ _ _ _ _ hg
 have hz : (putRow encStr (Sort.ahead w q) g 0 ss.toArray).heap.size = w.heap.size := heap_map_size _ _ _
 have h2 : W.heap[g]? = some (.cells (putCells encStr 0 ss.toArray cur) 9 (0, 0)) := by
  rw [hW, heap_grow_old _ _ (by rw [hz]; exact hgl)]
  exact h1
 subst hl
 refine ⟨⟨by simp, .inr ⟨g, cap, _, rfl, hb, h2, by omega, hcap, by unfold putCells; rw [Array.size_mapIdx]; exact hsz, ?_⟩⟩, ?_⟩
 . apply List.ext_getElem?
   intro i
   rw [List.getElem?_take, List.getElem?_map]
   by_cases hi : i < l.length * 1
   . rw [if_pos hi]
     have hil : i < l.length := by omega
     have his : i < ss.length := by omega
     have h3 : ss[i]? = some (l[i].data.toList) := by
      have h4 : (ss.take l.length)[i]? = (toL l)[i]? := by rw [htake]
      rw [List.getElem?_take, if_pos hil] at h4
      rw [h4]
      unfold toL
      rw [List.getElem?_map, List.getElem?_eq_getElem hil]
      rfl
     obtain ⟨hi3, e3⟩ := List.getElem?_eq_some_iff.1 h3
     unfold putCells
     rw [Array.getElem?_toList, Array.getElem?_mapIdx, Array.getElem?_eq_getElem (show i < cur.size by omega), Option.map_some, if_pos ⟨Nat.zero_le _, by simp; omega⟩, List.getElem?_eq_getElem hil]
     have : ss.toArray[i - 0]! = l[i].data.toList := by
      rw [Nat.sub_zero, getElem!_pos ss.toArray i (by simpa using his)]
      simpa using e3
     rw [this]
     rfl
   . rw [if_neg hi, List.getElem?_eq_none (by omega)]
     rfl
 . refine ⟨by rw [hW, size_grow, hz]; omega, by rw [hW]; rfl, by rw [hW]; rfl, by rw [hW]; rfl, fun b hb' hne => ?_⟩
   rw [hW, heap_grow_old _ _ (by rw [hz]; exact hb')]
   exact heap_map_ne _ _ _ _ (fun e => hne (by subst e; rfl))
theorem row_holds {w : World} {g n : Nat} {cur : Array Value} {l : List ByteArray} (hg : w.heap[g]? = some (.cells cur 9 (0, 0))) (hl : l.length = n) (ht : cur.toList.take (n * 1) = l.map fun s => .string s) : Holds encStr w g 0 (toL l).toArray := by
 intro j hj
 have hjl : j < l.length := by simpa [toL] using hj
 refine ⟨?_, blk_frozen hg _⟩
 rw [Nat.zero_add, cell_of hg]
 have h1 : (cur.toList.take (n * 1))[j]? = (l.map fun s => Value.string s)[j]? := by rw [ht]
 rw [List.getElem?_take, if_pos (by omega), Array.getElem?_toList, List.getElem?_map, List.getElem?_eq_getElem hjl] at h1
 rw [h1, getElem!_pos _ j hj]
 simp [toL, encStr]
def sortL (ss : List (List UInt8)) : List (List UInt8) := ss.mergeSort fun x y => decide (x <= y)
def Sorts (base : Nat) (v : Value) (l : List ByteArray) (w : World) (e : Ending) (w' : World) : Prop := e = .returned (.tuple #[]) /\ StrRow base w' v l /\ Grew v w w'
def Compacts (base : Nat) (v : Value) (l : List ByteArray) (w : World) (e : Ending) (w' : World) : Prop := ∃ v', e = .returned v' /\ StrRow base w' v' l /\ Grew v w w' /\ ∀ k, v'.ownBlock = some k -> base <= k
theorem Grew.refl (v : Value) (w : World) : Grew v w w := ⟨Nat.le_refl _, rfl, rfl, rfl, fun _ _ _ => rfl⟩
theorem sort_c {base : Nat} {w : World} {v : Value} {l : List ByteArray} (h : StrRow base w v l) (hn : l.length <= 1000000) : Calls Tryz.prog 32 #[v] w (Sorts base v (ofL (sortL (toL l))) w) := by
 rcases h.2 with ⟨rfl, h0⟩ | ⟨g, cap, cur, rfl, e2, e3, e4, e5, e6, e7⟩
 . obtain rfl : l = [] := List.eq_nil_of_length_eq_zero h0
   refine (Tryz.slices_Sort_string_none none 0 w).mono ?_
   rintro e w' ⟨rfl, rfl⟩
   exact ⟨rfl, by rw [show ofL (sortL (toL [])) = [] by simp [ofL, sortL, toL]]; exact h, Grew.refl _ _⟩
 . have hH := row_holds e3 rfl e7
   have := Tryz.slices_Sort_string g 0 cap (toL l) w hH (heap_lt e3) (by rw [toL_len]; omega)
   rw [toL_len] at this
   refine this.mono ?_
   rintro e w' ⟨rfl, q, os, hw⟩
   have hlen : (sortL (toL l)).length = l.length := by unfold sortL; rw [List.length_mergeSort, toL_len]
   obtain ⟨h1, h2⟩ := row_put (n' := l.length) (l := ofL (sortL (toL l))) e2 e3 e4 e5 e6 hlen (Nat.le_refl _) (by rw [ofL_len, hlen]) (by
    rw [List.take_of_length_le (by omega)]
    unfold toL ofL
    rw [List.map_map]
    conv => lhs; rw [<- List.map_id (sortL _)]
    rfl) hw
   exact ⟨rfl, h1, h2⟩
theorem compact_len (zs : List (List UInt8)) : (Lib.compact zs).length <= zs.length := by
 unfold Lib.compact Lib.compactUpTo
 rw [List.length_map]
 exact Nat.le_trans (List.length_filter_le _ _) (by rw [List.length_range]; exact Nat.le_refl _)
theorem compact_c {base : Nat} {w : World} {v : Value} {ss : List (List UInt8)} (h : StrRow base w v (ofL ss)) (hn : ss.length <= 1000000) : Calls Tryz.prog 33 #[v] w (Compacts base v (ofL (Lib.compact ss)) w) := by
 have hts : toL (ofL ss) = ss := by
  unfold toL ofL
  rw [List.map_map]
  conv => rhs; rw [<- List.map_id ss]
  rfl
 rcases h.2 with ⟨rfl, h0⟩ | ⟨g, cap, cur, rfl, e2, e3, e4, e5, e6, e7⟩
 . rw [ofL_len] at h0
   obtain rfl : ss = [] := List.eq_nil_of_length_eq_zero h0
   refine (Tryz.slices_Compact_string_empty none 0 w).mono ?_
   rintro e w' ⟨rfl, rfl⟩
   exact ⟨_, rfl, h, Grew.refl _ _, fun k hk => by cases hk⟩
 . have hH := row_holds e3 rfl e7
   rw [hts] at hH
   have hle := compact_len ss
   have := Tryz.slices_Compact_string g 0 cap ss w hH (by omega) (by rw [ofL_len] at e4; exact e4)
   rw [ofL_len]
   rw [ofL_len] at e4
   refine this.mono ?_
   rintro e w' ⟨rfl, q, hw⟩
   obtain ⟨h1, h2⟩ := row_put (W := w') (q := q) (ss := Lib.compact ss ++ List.replicate (ss.length - (Lib.compact ss).length) []) (n := ss.length) (n' := (Lib.compact ss).length) (l := ofL (Lib.compact ss)) (os := #[]) e2 e3 e4 e5 e6 (by simp; omega) hle (by rw [ofL_len]) (by
    rw [List.take_left' rfl]
    unfold toL ofL
    rw [List.map_map]
    conv => lhs; rw [<- List.map_id (Lib.compact ss)]
    rfl) (by rw [grow_empty]; exact hw)
   refine ⟨_, rfl, h1, h2, fun k hk => ?_⟩
   cases hk
   exact e2
end Go.Proofs.YtbiioaggilaebaaGreatDoor.Pa
namespace Go.Proofs.YtbiioaggilaebaaGreatDoor.Pa
open Go Go.RowKit YtbiioaggilaebaaGreatDoorW.PrintWords B Tm Wi
def opd (deps : List ByteArray) (o : Op) : List ByteArray := dp deps o.a ++ (if o.k = 2 \/ o.k = 3 then dp deps o.b else [])
theorem dp_len (deps : List ByteArray) (a : Int) : (dp deps a).length <= 1 := by unfold dp; split <;> simp
theorem opd_len (deps : List ByteArray) (o : Op) : (opd deps o).length <= 2 := by
 unfold opd
 rw [List.length_append]
 have h1 := dp_len deps o.a
 split
 . have := dp_len deps o.b; omega
 . simp; omega
theorem opds_len (deps : List ByteArray) : ∀ l : List Op, (l.flatMap (opd deps)).length <= l.length * 2
 | [] => by simp
 | o :: l => by
  rw [List.flatMap_cons, List.length_append, List.length_cons]
  have := opd_len deps o
  have := opds_len deps l
  omega
theorem eachc_c (ob q g base : Nat) (note : ByteArray) (D : Option Addr) (dc : Nat) (deps : List ByteArray) (A0 : Option Addr) (no0 ac0 : Nat) (v : Value) (l : List ByteArray) (A : Option Addr) (c : Nat) (ops : List Op) (w : World)
 (hob : w.cell? ⟨ob, 0, none⟩ = some (.slice A ops.length c)) (hobb : ob < base) (hO : OpsAt w A c ops) (hA : ∀ ad, A = some ad -> ad.block < base) (hn : ops.length <= 40000)
 (hok : ∀ o ∈ ops, o.a < deps.length /\ o.b < deps.length \/ o.a < deps.length /\ o.k ≠ 2 /\ o.k ≠ 3) (hQ : QAt w q v) (hq : base <= q) (hP : PatAt w g note D deps.length dc A0 no0 ac0) (hg : g < base)
 (hT : TxAt w D dc deps) (hD : ∀ ad, D = some ad -> 0 < deps.length -> ad.block < base) (hrow : StrRow base w v l) (hl : l.length <= 1000) (hbase : base <= w.heap.size) :
 Calls Tryz.prog 30 #[.func (.func 31) #[] #[.pointer (some ⟨q, 0, none⟩), .pointer (some ⟨g, 0, none⟩)], .pointer (some ⟨ob, 0, none⟩)] w (Coll base q (l ++ ops.flatMap (opd deps)) w) := by
 obtain ⟨n, hnn⟩ : ∃ n, n = ops.length := ⟨_, rfl⟩
 rw [<- hnn] at hob hn
 have hbk := lh (show ∀ (W : World), Below base w W -> ∀ (b i : Nat) (u : Value), b < base -> w.cell? ⟨b, i, none⟩ = some u -> W.cell? ⟨b, i, none⟩ = some u from fun W h b i u hb hc => (h.cell (p := ⟨_, _, none⟩) hb).trans hc)
 have CC := lh (fun (W : World) (hW : Below base w W) (rb ri : Nat) (a : Int) (v : Value) (l : List ByteArray) (hr : W.cell? ⟨rb, ri, none⟩ = some (.int .i64 a)) (hrb : rb < base) (ha : a < deps.length) (hQ : QAt W q v) (hrow : StrRow base W v l) (hl : l.length <= 100000) =>
  collect_c rb ri q g base a note D dc deps A0 no0 ac0 v l W hr hrb ha hQ hq ((hW.block _ hg).trans hP) hg (hT.move fun h0 ad had => hW.block _ (hD ad had h0)) hD hrow hl (Nat.le_trans hbase hW.size))
 have hOH := lh hO
 have hAH := lh hA
 have hnH := lh hnn
 have hokH := lh hok
 have hobH := lh hob
 have hQH := lh hQ
 have hrowH := lh hrow
 clear hO hA hnn hok hQ hP hT hD hrow
 go_enter Tryz.func30, Tryz.ntmps30
 go_upto_region 1 with fail
 clear hob
 go_loopg [6] n (fun g' i W => ∃ (k : Nat) (v : Value), g' = n - k /\ k <= n /\ i = .int .i64 k /\ QAt W q v /\ StrRow base W v (l ++ (ops.take k).flatMap (opd deps)) /\ Below base w W)
 case atStart => exact ⟨0, v, by omega, by omega, rfl, hQH.out, by rw [List.take_zero, List.flatMap_nil, List.append_nil]; exact hrowH.out, Below.refl _ _⟩
 case round =>
  obtain ⟨k, v1, hg', hk, rfl, hQ1, hrow1, hb1⟩ := hrel
  subst hg'
  have hQ1H := lh hQ1
  have hrow1H := lh hrow1
  have hb1H := lh hb1
  have hob1 := hbk.out _ hb1 _ _ _ hobb hobH.out
  have hob1H := lh hob1
  by_cases hkn : k < n
  . have hki : (k : Int) < (n : Int) := by omega
    have hkl : k < ops.length := by rw [<- hnH.out]; exact hkn
    obtain ⟨x, hx⟩ : ∃ x, x = ops[k] := ⟨_, rfl⟩
    obtain ⟨b, of, L, cl, hAe, c0, c1, c2, c3, c4, c5, _⟩ := hOH.out.get k x (by rw [List.getElem?_eq_getElem hkl, hx])
    subst hAe
    have hbb := hAH.out _ rfl
    simp only at hbb
    have hxk := hokH.out x (by rw [hx]; exact List.getElem_mem hkl)
    have hnext := lh (show (ops.take (k + 1)).flatMap (opd deps) = (ops.take k).flatMap (opd deps) ++ opd deps x by rw [List.take_succ_eq_append_getElem hkl, List.flatMap_append, <- hx]; simp)
    have hlen := lh (show (l ++ (ops.take k).flatMap (opd deps)).length <= 99990 by
     rw [List.length_append]
     have := opds_len deps (ops.take k)
     rw [List.length_take] at this
     have := hnH.out
     omega)
    replace hx := lh hx
    obtain ⟨xk, xa, xm, xb, xn, xls⟩ := x
    simp only at hxk c0 c1 c2 c3 c4 c5
    have c0' := hbk.out _ hb1 _ _ _ hbb c0
    have c1' := hbk.out _ hb1 _ _ _ hbb c1
    have c3' := hbk.out _ hb1 _ _ _ hbb c3
    have ch := lh (show _ /\ _ from ⟨c0, c3⟩)
    have hxa : xa < deps.length := by rcases hxk with h | h <;> exact h.1
    have C1 := lh (CC.out wr hb1 b (of + k * 6 + 1) xa v1 _ c1' hbb hxa hQ1 hrow1 (by have := hlen.out; omega))
    have hxkH := lh hxk
    have hxaH := lh hxa
    clear hxa hxk c0 c1 c2 c3 c4 c5 c0' c1' c3' hQ1 hrow1 hb1
    go_wp2_with fail
    refine (C1.out).mono ?_
    rintro ev w2 ⟨rfl, v2, hQ2, hrow2, hb2⟩
    have hb2H := lh (hb1H.out.trans hb2)
    have hQ2H := lh hQ2
    have hrow2H := lh hrow2
    clear hQ2 hrow2 hb2 hob1 C1
    have hob2 := hbk.out _ hb2H.out _ _ _ hobb hobH.out
    have c0 := hbk.out _ hb2H.out _ _ _ hbb ch.out.1
    by_cases h23 : xk = 2 \/ xk = 3
    . have hxb : xb < deps.length := by rcases hxkH.out with h | h <;> omega
      have c3 := hbk.out _ hb2H.out _ _ _ hbb ch.out.2
      have C2 := lh (CC.out w2 hb2H.out b (of + k * 6 + 3) xb v2 _ c3 hbb hxb hQ2H.out hrow2H.out (by rw [List.length_append]; have := hlen.out; have := dp_len deps xa; omega))
      have hopd := lh (show opd deps ⟨xk, xa, xm, xb, xn, xls⟩ = dp deps xa ++ dp deps xb by unfold opd; rw [if_pos h23])
      clear hxb c3
      rcases h23 with rfl | rfl
      . go_wp2_with fail
        refine (C2.out).mono ?_
        rintro ev w3 ⟨rfl, v3, hQ3, hrow3, hb3⟩
        have hb3H := lh (hb2H.out.trans hb3)
        have hQ3H := lh hQ3
        have hrow3H := lh hrow3
        clear hQ3 hrow3 hb3 c0 hob2
        go_wp2_with fail
        go_roundg (n - (k + 1))
        case measure => omega
        case rel => exact ⟨k + 1, v3, rfl, by omega, by go_num, hQ3H.out, by rw [hnext.out, hopd.out, <- List.append_assoc, <- List.append_assoc]; exact hrow3H.out, hb3H.out⟩
      . go_wp2_with fail
        refine (C2.out).mono ?_
        rintro ev w3 ⟨rfl, v3, hQ3, hrow3, hb3⟩
        have hb3H := lh (hb2H.out.trans hb3)
        have hQ3H := lh hQ3
        have hrow3H := lh hrow3
        clear hQ3 hrow3 hb3 c0 hob2
        go_wp2_with fail
        go_roundg (n - (k + 1))
        case measure => omega
        case rel => exact ⟨k + 1, v3, rfl, by omega, by go_num, hQ3H.out, by rw [hnext.out, hopd.out, <- List.append_assoc, <- List.append_assoc]; exact hrow3H.out, hb3H.out⟩
    . have hopd := lh (show opd deps ⟨xk, xa, xm, xb, xn, xls⟩ = dp deps xa by unfold opd; rw [if_neg h23, List.append_nil])
      have d2 : (xk == 2) = false := by simp; omega
      have d3 : (xk == 3) = false := by simp; omega
      clear h23
      go_wp2_with fail
      go_roundg (n - (k + 1))
      case measure => omega
      case rel => exact ⟨k + 1, v2, rfl, by omega, by go_num, hQ2H.out, by rw [hnext.out, hopd.out, <- List.append_assoc]; exact hrow2H.out, hb2H.out⟩
  . have hkn' : k = n := by omega
    subst hkn'
    have hki : ¬ (k : Int) < (k : Int) := by omega
    have ht := lh (show ops.take k = ops from List.take_of_length_le (by rw [<- hnH.out]; exact Nat.le_refl _))
    clear hQ1 hrow1 hb1
    go_wp2_with fail
    go_end0
    exact ⟨rfl, v1, hQ1H.out, by rw [<- ht.out]; exact hrow1H.out, hb1H.out⟩
end Go.Proofs.YtbiioaggilaebaaGreatDoor.Pa
namespace Go.Proofs.YtbiioaggilaebaaGreatDoor.Pa
open Go Go.RowKit YtbiioaggilaebaaGreatDoorW.PrintWords B Tm Wi
def CurAt (cur : Array Value) (l : List Op) : Prop :=
 ∀ j o, l[j]? = some o -> (cur[j * 6]? = some (.int .i64 o.k) /\ cur[j * 6 + 1]? = some (.int .i64 o.a) /\ cur[j * 6 + 2]? = some (.int .i64 o.m) /\ cur[j * 6 + 3]? = some (.int .i64 o.b) /\ cur[j * 6 + 4]? = some (.int .i64 o.n)) /\ (∃ L cl, cur[j * 6 + 5]? = some (.slice L 0 cl)) /\ o.ls = []
def setA (o : Op) (x : Int) : Op := ⟨o.k, x, o.m, o.b, o.n, o.ls⟩
def setB (o : Op) (x : Int) : Op := ⟨o.k, o.a, o.m, x, o.n, o.ls⟩
theorem CurAt.setA {cur cur' : Array Value} {l : List Op} {k : Nat} {o : Op} {x : Int} (h : CurAt cur l) (hk : l[k]? = some o) (hs : SetAt cur cur' (k * 6 + 1) (.int .i64 x)) : CurAt cur' (l.set k (setA o x)) := by
 intro j p hj
 obtain ⟨_, h1, h2⟩ := hs
 have hkl := (List.getElem?_eq_some_iff.1 hk).1
 by_cases e : j = k
 . subst e
   rw [List.getElem?_set_self hkl] at hj
   cases hj
   obtain ⟨⟨c0, c1, c2, c3, c4⟩, ⟨L, cl, c5⟩, c6⟩ := h j o hk
   exact ⟨⟨(h2 _ (by omega)).trans c0, h1, (h2 _ (by omega)).trans c2, (h2 _ (by omega)).trans c3, (h2 _ (by omega)).trans c4⟩, ⟨L, cl, (h2 _ (by omega)).trans c5⟩, c6⟩
 . rw [List.getElem?_set_ne (fun h => e h.symm)] at hj
   obtain ⟨⟨c0, c1, c2, c3, c4⟩, ⟨L, cl, c5⟩, c6⟩ := h j p hj
   exact ⟨⟨(h2 _ (by omega)).trans c0, (h2 _ (by omega)).trans c1, (h2 _ (by omega)).trans c2, (h2 _ (by omega)).trans c3, (h2 _ (by omega)).trans c4⟩, ⟨L, cl, (h2 _ (by omega)).trans c5⟩, c6⟩
theorem CurAt.setB {cur cur' : Array Value} {l : List Op} {k : Nat} {o : Op} {x : Int} (h : CurAt cur l) (hk : l[k]? = some o) (hs : SetAt cur cur' (k * 6 + 3) (.int .i64 x)) : CurAt cur' (l.set k (setB o x)) := by
 intro j p hj
 obtain ⟨_, h1, h2⟩ := hs
 have hkl := (List.getElem?_eq_some_iff.1 hk).1
 by_cases e : j = k
 . subst e
   rw [List.getElem?_set_self hkl] at hj
   cases hj
   obtain ⟨⟨c0, c1, c2, c3, c4⟩, ⟨L, cl, c5⟩, c6⟩ := h j o hk
   exact ⟨⟨(h2 _ (by omega)).trans c0, (h2 _ (by omega)).trans c1, (h2 _ (by omega)).trans c2, h1, (h2 _ (by omega)).trans c4⟩, ⟨L, cl, (h2 _ (by omega)).trans c5⟩, c6⟩
 . rw [List.getElem?_set_ne (fun h => e h.symm)] at hj
   obtain ⟨⟨c0, c1, c2, c3, c4⟩, ⟨L, cl, c5⟩, c6⟩ := h j p hj
   exact ⟨⟨(h2 _ (by omega)).trans c0, (h2 _ (by omega)).trans c1, (h2 _ (by omega)).trans c2, (h2 _ (by omega)).trans c3, (h2 _ (by omega)).trans c4⟩, ⟨L, cl, (h2 _ (by omega)).trans c5⟩, c6⟩
def tnOp (deps qd : List ByteArray) (name : ByteArray) (o : Op) : Op := if o.k = 2 \/ o.k = 3 then setB (setA o (tn deps qd name o.a)) (tn deps qd name o.b) else setA o (tn deps qd name o.a)
def mixT {α : Type} (f : α -> α) (l : List α) (k : Nat) : List α := (l.take k).map f ++ l.drop k
theorem mixT_zero {α : Type} (f : α -> α) (l : List α) : mixT f l 0 = l := by unfold mixT; simp
theorem mixT_all {α : Type} (f : α -> α) (l : List α) (k : Nat) (h : l.length <= k) : mixT f l k = l.map f := by unfold mixT; rw [List.take_of_length_le h, List.drop_of_length_le h, List.append_nil]
theorem mixT_get {α : Type} (f : α -> α) (l : List α) (k : Nat) (h : k < l.length) : (mixT f l k)[k]? = some l[k] := by
 unfold mixT
 rw [List.getElem?_append_right (by simp; omega)]
 simp only [List.length_map, List.length_take]
 rw [show k - min k l.length = 0 from by omega, List.getElem?_drop, Nat.add_zero, List.getElem?_eq_getElem h]
theorem mixT_succ {α : Type} (f : α -> α) (l : List α) (k : Nat) (h : k < l.length) : (mixT f l k).set k (f l[k]) = mixT f l (k + 1) := by
 unfold mixT
 rw [List.set_append_right _ _ (by simp; omega), List.take_succ_eq_append_getElem h, List.map_append, List.append_assoc]
 congr 1
 simp only [List.length_map, List.length_take]
 rw [show k - min k l.length = 0 from by omega, List.drop_eq_getElem_cons h]
 rfl
def EachT (b : Nat) (l : List Op) (w : World) (e : Ending) (w' : World) : Prop :=
 e = .returned (.tuple #[]) /\ ∃ cur, w'.heap[b]? = some (.cells cur 38 (0, 0)) /\ CurAt cur l /\ Tch (fun k => k = b) w w'
theorem eacht_c (ob q g nb pb b : Nat) (name note : ByteArray) (D : Option Addr) (dc : Nat) (deps : List ByteArray) (A0 : Option Addr) (no0 ac0 : Nat) (E : Option Addr) (ec : Nat) (qd : List ByteArray) (c : Nat) (ops : List Op) (cur : Array Value) (w : World)
 (hob : w.cell? ⟨ob, 0, none⟩ = some (.slice (some ⟨b, 0, none⟩) ops.length c)) (hobb : ob ≠ b) (hb : w.heap[b]? = some (.cells cur 38 (0, 0))) (hcur : CurAt cur ops) (hn : ops.length <= 40000)
 (hok : ∀ o ∈ ops, o.a < deps.length /\ o.b < deps.length \/ o.a < deps.length /\ o.k ≠ 2 /\ o.k ≠ 3) (hQ : QAt w q (.slice E qd.length ec)) (hq : q ≠ b) (hP : PatAt w g note D deps.length dc A0 no0 ac0) (hg : g ≠ b)
 (hT : TxAt w D dc deps) (hD : ∀ ad, D = some ad -> 0 < deps.length -> ad.block ≠ b) (hE : TxAt w E ec qd) (hEb : ∀ ad, E = some ad -> 0 < qd.length -> ad.block ≠ b)
 (hN : w.cell? ⟨nb, 0, none⟩ = some (.string name)) (hnb : nb ≠ b) (hpb : w.cell? ⟨pb, 0, none⟩ = some (.func (.func 34) #[] #[.pointer (some ⟨q, 0, none⟩)])) (hpbb : pb ≠ b) :
 Calls Tryz.prog 30 #[.func (.func 36) #[] #[.pointer (some ⟨pb, 0, none⟩), .pointer (some ⟨g, 0, none⟩), .pointer (some ⟨nb, 0, none⟩)], .pointer (some ⟨ob, 0, none⟩)] w (EachT b (ops.map (tnOp deps qd name)) w) := by
 obtain ⟨n, hnn⟩ : ∃ n, n = ops.length := ⟨_, rfl⟩
 rw [<- hnn] at hob hn
 have hbk := lh (show ∀ (W : World), Tch (fun k => k = b) w W -> ∀ (b' i : Nat) (u : Value), b' ≠ b -> w.cell? ⟨b', i, none⟩ = some u -> W.cell? ⟨b', i, none⟩ = some u from fun W h b' i u hb hc => (World.cell?_of_block (a := ⟨b', i, none⟩) (h.block b' (World.block_lt_of_cell? w _ hc) hb)).trans hc)
 have htx : ∀ (W : World), Tch (fun k => k = b) w W -> ∀ (D : Option Addr) (dc : Nat) (l : List ByteArray), TxAt w D dc l -> (∀ ad, D = some ad -> 0 < l.length -> ad.block ≠ b) -> TxAt W D dc l := fun W h D dc l hT hD => hT.move fun h0 ad had => h.block ad.block (by
  obtain ⟨b', o', e, hcell⟩ := str_cell hT.1 0 h0
  rw [had] at e
  cases e
  exact World.block_lt_of_cell? w _ hcell) (hD ad had h0)
 have CC := lh (fun (W : World) (hW : Tch (fun k => k = b) w W) (ri : Nat) (a : Int) (cur : Array Value) (hcur : cur[ri]? = some (.int .i64 a)) (hr : W.heap[b]? = some (.cells cur 38 (0, 0))) (ha : a < deps.length) =>
  turn_c b ri q g nb pb a name note D dc deps A0 no0 ac0 E ec qd cur W hcur hr ha ((hW.block _ (heap_lt hQ) hq).trans hQ) ((hW.block _ (heap_lt hP) hg).trans hP) (htx W hW D dc deps hT hD) (htx W hW E ec qd hE hEb) (hbk.out W hW nb 0 _ hnb hN) (hbk.out W hW pb 0 _ hpbb hpb))
 have hnH := lh hnn
 have hokH := lh hok
 have hobH := lh hob
 have hbH := lh hb
 have hcurH := lh hcur
 clear hnn hok hQ hP hT hD hE hEb htx hN hpb hb hcur
 go_enter Tryz.func30, Tryz.ntmps30
 go_upto_region 1 with fail
 clear hob
 go_loopg [6] n (fun g' i W => ∃ (k : Nat) (cu : Array Value), g' = n - k /\ k <= n /\ i = .int .i64 k /\ W.heap[b]? = some (.cells cu 38 (0, 0)) /\ CurAt cu (mixT (tnOp deps qd name) ops k) /\ Tch (fun k => k = b) w W)
 case atStart => exact ⟨0, cur, by omega, by omega, rfl, hbH.out, by rw [mixT_zero]; exact hcurH.out, Tch.refl _ _⟩
 case round =>
  obtain ⟨k, cu, hg', hk, rfl, hb1, hc1, hT1⟩ := hrel
  subst hg'
  have hb1H := lh hb1
  have hc1H := lh hc1
  have hT1H := lh hT1
  have hob1 := hbk.out _ hT1 _ _ _ hobb hobH.out
  by_cases hkn : k < n
  . have hki : (k : Int) < (n : Int) := by omega
    have hkl : k < ops.length := by rw [<- hnH.out]; exact hkn
    obtain ⟨x, hx⟩ : ∃ x, x = ops[k] := ⟨_, rfl⟩
    have hgetH := lh (show (mixT (tnOp deps qd name) ops k)[k]? = some x by rw [mixT_get _ _ _ hkl, hx])
    have hsuc := lh (show (mixT (tnOp deps qd name) ops k).set k (tnOp deps qd name x) = mixT (tnOp deps qd name) ops (k + 1) by rw [hx]; exact mixT_succ _ _ _ hkl)
    have hxk := hokH.out x (by rw [hx]; exact List.getElem_mem hkl)
    replace hx := lh hx
    obtain ⟨⟨c0, c1, c2, c3, c4⟩, _, _⟩ := hc1 k x hgetH.out
    obtain ⟨xk, xa, xm, xb, xn, xls⟩ := x
    simp only at hxk c0 c1 c2 c3 c4
    have hxa : xa < deps.length := by rcases hxk with h | h <;> exact h.1
    have C1 := lh (CC.out wr hT1 (k * 6 + 1) xa cu c1 hb1 hxa)
    have hxkH := lh hxk
    have hch := lh (show _ /\ _ from ⟨c0, c3⟩)
    clear hxa hxk c0 c1 c2 c3 c4 hb1 hc1 hT1
    go_wp2_with fail
    refine (C1.out).mono ?_
    rintro ev w2 ⟨rfl, cu2, hb2, hs2, hT2⟩
    have hT2H := lh (hT1H.out.trans hT2)
    have hb2H := lh hb2
    have hs2H := lh hs2
    have hc2H := lh (hc1H.out.setA hgetH.out hs2)
    clear hb2 hs2 hT2 hob1 C1
    have hob2 := hbk.out _ hT2H.out _ _ _ hobb hobH.out
    have c0 : w2.cell? ⟨b, k * 6, none⟩ = some (.int .i64 xk) := by rw [cell_of hb2H.out]; exact (hs2H.out.2.2 _ (by omega)).trans hch.out.1
    by_cases h23 : xk = 2 \/ xk = 3
    . have hxb : xb < deps.length := by rcases hxkH.out with h | h <;> omega
      have C2 := lh (CC.out w2 hT2H.out (k * 6 + 3) xb cu2 ((hs2H.out.2.2 _ (by omega)).trans hch.out.2) hb2H.out hxb)
      have hop := lh (show tnOp deps qd name ⟨xk, xa, xm, xb, xn, xls⟩ = setB (setA ⟨xk, xa, xm, xb, xn, xls⟩ (tn deps qd name xa)) (tn deps qd name xb) by unfold tnOp; rw [if_pos h23])
      clear hxb
      rcases h23 with rfl | rfl
      . go_wp2_with fail
        refine (C2.out).mono ?_
        rintro ev w3 ⟨rfl, cu3, hb3, hs3, hT3⟩
        have hT3H := lh (hT2H.out.trans hT3)
        have hb3H := lh hb3
        have hc3H := lh (hc2H.out.setB (List.getElem?_set_self (List.getElem?_eq_some_iff.1 hgetH.out).1) hs3)
        clear hb3 hs3 hT3 c0 hob2
        go_wp2_with fail
        go_roundg (n - (k + 1))
        case measure => omega
        case rel => exact ⟨k + 1, cu3, rfl, by omega, by go_num, hb3H.out, by rw [<- hsuc.out, hop.out]; have := hc3H.out; rwa [List.set_set] at this, hT3H.out⟩
      . go_wp2_with fail
        refine (C2.out).mono ?_
        rintro ev w3 ⟨rfl, cu3, hb3, hs3, hT3⟩
        have hT3H := lh (hT2H.out.trans hT3)
        have hb3H := lh hb3
        have hc3H := lh (hc2H.out.setB (List.getElem?_set_self (List.getElem?_eq_some_iff.1 hgetH.out).1) hs3)
        clear hb3 hs3 hT3 c0 hob2
        go_wp2_with fail
        go_roundg (n - (k + 1))
        case measure => omega
        case rel => exact ⟨k + 1, cu3, rfl, by omega, by go_num, hb3H.out, by rw [<- hsuc.out, hop.out]; have := hc3H.out; rwa [List.set_set] at this, hT3H.out⟩
    . have hop := lh (show tnOp deps qd name ⟨xk, xa, xm, xb, xn, xls⟩ = setA ⟨xk, xa, xm, xb, xn, xls⟩ (tn deps qd name xa) by unfold tnOp; rw [if_neg h23])
      have d2 : (xk == 2) = false := by simp; omega
      have d3 : (xk == 3) = false := by simp; omega
      clear h23
      go_wp2_with fail
      go_roundg (n - (k + 1))
      case measure => omega
      case rel => exact ⟨k + 1, cu2, rfl, by omega, by go_num, hb2H.out, by rw [<- hsuc.out, hop.out]; exact hc2H.out, hT2H.out⟩
  . have hkn' : k = n := by omega
    subst hkn'
    have hki : ¬ (k : Int) < (k : Int) := by omega
    have ht := lh (mixT_all (tnOp deps qd name) ops k (by rw [<- hnH.out]; exact Nat.le_refl _))
    clear hb1 hc1 hT1
    go_wp2_with fail
    go_end0
    exact ⟨rfl, cu, hb1H.out, by rw [<- ht.out]; exact hc1H.out, hT1H.out⟩
theorem each_nil (f : Value) (ob : Nat) (A : Option Addr) (c : Nat) (w : World) (hob : w.cell? ⟨ob, 0, none⟩ = some (.slice A 0 c)) :
 Calls Tryz.prog 30 #[f, .pointer (some ⟨ob, 0, none⟩)] w fun e w' => e = .returned (.tuple #[]) /\ w' = w := by
 go_enter Tryz.func30, Tryz.ntmps30
 go_upto_region 1 with fail
 go_loopg [6] 0 (fun g' i W => i = .int .i64 0 /\ W = w)
 case atStart => exact ⟨rfl, rfl⟩
 case round =>
  obtain ⟨rfl, rfl⟩ := hrel
  go_wp2_with fail
  go_end0
  exact ⟨rfl, rfl⟩
end Go.Proofs.YtbiioaggilaebaaGreatDoor.Pa
namespace Go.Proofs.YtbiioaggilaebaaGreatDoor.Pa
open Go Go.RowKit Go.Shelf YtbiioaggilaebaaGreatDoorW.PrintWords B Tm Wi
attribute [local go_sem] Oper.semAt_some
def ORow (base : Nat) (w : World) (v : Value) (L : List Op) : Prop := ∃ cs : List Value, w.ownsRow base 38 6 v L.length cs /\ CurAt cs.toArray L
theorem ORow.nil (base : Nat) (w : World) : ORow base w (.slice none 0 0) [] := ⟨[], ⟨rfl, .inl ⟨rfl, rfl⟩⟩, fun j o h => by cases h⟩
theorem ORow.lt {base : Nat} {w : World} {v : Value} {L : List Op} (h : ORow base w v L) (k : Nat) (hk : v.ownBlock = some k) : base <= k /\ k < w.heap.size := by
 obtain ⟨cs, h1, _⟩ := h
 have := h1.lt k hk
 exact ⟨this.1, this.2⟩
theorem ORow.cells {base : Nat} {w : World} {v : Value} {L : List Op} (h : ORow base w v L) (k : Nat) (hk : v.ownBlock = some k) : ∃ cur, w.heap[k]? = some (.cells cur 38 (0, 0)) := by
 obtain ⟨cs, ⟨_, h2⟩, _⟩ := h
 rcases h2 with ⟨rfl, _⟩ | ⟨g, cap, cur, rfl, e2, e3, _⟩
 . cases hk
 . cases hk
   exact ⟨cur, e3⟩
theorem ORow.same {base : Nat} {w w' : World} {v : Value} {L : List Op} (h : ORow base w v L) (hk : ∀ b, v.ownBlock = some b -> w'.heap[b]? = w.heap[b]?) : ORow base w' v L := by
 obtain ⟨cs, ⟨k1, k2⟩, h2⟩ := h
 refine ⟨cs, ⟨k1, ?_⟩, h2⟩
 rcases k2 with k2 | ⟨g, cap, cur, rfl, e2, e3, e4⟩
 . exact .inl k2
 . exact .inr ⟨g, cap, cur, rfl, e2, (hk g rfl).trans e3, e4⟩
def six0 (x : Op) (A : Option Addr) (ca : Nat) : List Value := [.int .i64 x.k, .int .i64 x.a, .int .i64 x.m, .int .i64 x.b, .int .i64 x.n, .slice A 0 ca]
theorem CurAt.app {cs : List Value} {L : List Op} {x : Op} {A : Option Addr} {ca : Nat} (h : CurAt cs.toArray L) (hl : cs.length = L.length * 6) (hx : x.ls = []) :
 CurAt (cs ++ six0 x A ca).toArray (L ++ [x]) := by
 intro j o hj
 by_cases hjl : j < L.length
 . rw [List.getElem?_append_left hjl] at hj
   have h1 := h j o hj
   simp only [List.getElem?_toArray] at h1 ⊢
   have e : ∀ i, i < 6 -> (cs ++ six0 x A ca)[j * 6 + i]? = cs[j * 6 + i]? := fun i hi => List.getElem?_append_left (by omega)
   have e0 := e 0 (by omega)
   rw [Nat.add_zero] at e0
   rw [e0, e 1 (by omega), e 2 (by omega), e 3 (by omega), e 4 (by omega), e 5 (by omega)]
   exact h1
 . have hj2 := (List.getElem?_eq_some_iff.1 hj).1
   rw [List.length_append, List.length_singleton] at hj2
   obtain rfl : j = L.length := by omega
   rw [List.getElem?_append_right (Nat.le_refl _), Nat.sub_self] at hj
   cases hj
   simp only [List.getElem?_toArray]
   have e : ∀ i, (cs ++ six0 x A ca)[L.length * 6 + i]? = (six0 x A ca)[i]? := fun i => by
    rw [List.getElem?_append_right (by omega)]
    congr 1
    omega
   have e0 := e 0
   rw [Nat.add_zero] at e0
   rw [e0, e 1, e 2, e 3, e 4, e 5]
   exact ⟨⟨rfl, rfl, rfl, rfl, rfl⟩, ⟨A, ca, rfl⟩, hx⟩
theorem orow_app {F : Fence} {n : Nat} {ops : Array Oper} {rest : List Oper} {o : Oper} {a : Act} {Q : Exit -> Act -> World -> Prop} {base : Nat} {w : World} {v : Value} {L : List Op} (x : Op) {A : Option Addr} {ca : Nat} (hgd : o.guard = none) (s y : Operand) (t : TypeId)
 (ho : o.op = .call { callee := .builtin .append, args := #[s, y], argTypes := #[t, t] }) (ht : Tryz.prog.underlying t = some (.slice 38))
 (hs : a.eval s = v) (c g : Nat) (hx : a.eval y = .slice (some ⟨g, 0, none⟩) 1 c) (hg : g = w.heap.size) (hrow : ORow base w v L) (hxl : x.ls = []) (nn : Nat) (hnn : L.length = nn) (hb : nn <= 1000000) (hbase : base <= w.heap.size)
 (h : ∀ g' cap w', ORow base w' (.slice (some ⟨g', 0, none⟩) (nn + 1) cap) (L ++ [x]) -> Grew v w w' -> wpListIn F n Tryz.prog ops Q rest (a.put o.dst (.slice (some ⟨g', 0, none⟩) (nn + 1) cap)) w') :
 wpListIn F n Tryz.prog ops Q (o :: rest) a (w.alloc (.cells #[.int .i64 x.k, .int .i64 x.a, .int .i64 x.m, .int .i64 x.b, .int .i64 x.n, .slice A 0 ca] 38)) := by
 subst hg hnn
 obtain ⟨iF, hiF, hzF, hsF, hbF⟩ := infoO
 obtain ⟨cs, hown, hC⟩ := hrow
 refine wpListIn_append_own_at _ hgd s y t ho base 38 iF _ 6 64 ht hiF hzF hsF hbF rfl (by omega) v L.length cs hs (hown.alloc _) ⟨w.heap.size, 0, none⟩ 1 c [.int .i64 x.k, .int .i64 x.a, .int .i64 x.m, .int .i64 x.b, .int .i64 x.n, .slice A 0 ca] hx rfl (World.news_of_block (heap_alloc_at w _)) (fun u hu => by
  simp only [List.mem_cons, List.not_mem_nil, or_false] at hu
  rcases hu with rfl | rfl | rfl | rfl | rfl | rfl <;> rfl) (by unfold maxLen; omega) (by omega) (by simp; omega) ?_
 intro v' w' hown' hgrow _ hat
 have hsz := hgrow.size
 rw [size_alloc] at hsz
 have hown2 := hown'
 obtain ⟨_, hv2⟩ := hown2
 rcases hv2 with ⟨_, e0⟩ | ⟨g', cap, _, rfl, _⟩
 . omega
 refine h g' cap w' ⟨_, by rw [List.length_append]; exact hown', hC.app hown.1 hxl⟩ ⟨by omega, hgrow.os, hgrow.tape, hgrow.output, fun k h1 h2 => (hgrow.block k (by rw [size_alloc]; omega) h2).trans (heap_alloc_lt w _ _ h1)⟩
def BoxAx {α : Type} (a : Act) (ps : Array Tmp) (encs : α -> Array Value) (slot : Nat) (T : TypeId) (cs : α -> Array Value) (B : Nat) (Ex : Nat -> World -> Prop) (x : α) (a' : Act) (W : World) : Prop :=
 ∃ Bx, B <= Bx /\ W.heap[Bx]? = some (.cells (cs x) T (0, 0)) /\ Ex Bx W /\ a' = { tmps := ((ps.zip (encs x)).foldl (fun t (p, v) => t.setIfInBounds p v) a.tmps).setIfInBounds slot (.pointer (some ⟨Bx, 0, none⟩)), defers := [] }
theorem boxAx_own {α : Type} (a : Act) (ps : Array Tmp) (encs : α -> Array Value) (slot : Nat) (T : TypeId) (cs : α -> Array Value) (B B' : Nat) (Ex : Nat -> World -> Prop) (hEx : ∀ Bx, OwnFrom B' (fun (_ : Unit) W => Ex Bx W)) (x : α) (a' : Act) : OwnFrom B' (fun (_ : Unit) W => BoxAx a ps encs slot T cs B Ex x a' W) := by
 intro _ W W' row ⟨Bx, h1, h2, h4, h3⟩ hg hr
 refine ⟨Bx, h1, ?_, hEx Bx () W W' row h4 hg hr, h3⟩
 refine (hg.block Bx (heap_lt h2) (fun e => ?_)).trans h2
 obtain ⟨_, o, ho, hc⟩ := hr Bx e.symm
 rw [h2] at ho
 cases ho
 cases hc
theorem range_box {F : Fence} {n : Nat} {P : Program} {α : Type} {g : Operand} {ps : Array Tmp} {assign body : Code} {Q : Exit -> Act -> World -> Prop} {a : Act} {w : World}
 (hro : F.round = none) (h1 : 1 <= n) {gf : Nat} {lb : Array Value} (hg : a.eval g = .func (.func gf) #[] lb) (hFg : F.fn gf) (eg : ∀ args w, (callFunc gf args).run P w = .ok (.enter gf args) w)
 {encs : α -> Array Value} {Kb : Nat -> Prop} {S Sp : List α -> Prop} {N : Nat} (hseq : SeqStopsK F (n - 1) P gf lb encs (Kps Kb) S Sp N w) (hKb : ∀ b, Kb b -> b < w.heap.size) (hps : ∀ x, (encs x).size = ps.size)
 (I : List α -> World -> Prop) (hI : OwnFrom w.heap.size I) (h0 : I [] w) (slot : Nat) (T : TypeId) (cs : α -> Array Value) (Ex : Nat -> World -> Prop) (hEx : ∀ Bx, OwnFrom w.heap.size (fun (_ : Unit) W => Ex Bx W))
 (hassign : ∀ (l : Nat) (pre : List α) (x : α) (W : World) (K : Act -> World -> Prop), I pre W -> w.heap.size <= W.heap.size -> (∀ a' W', KeepsFrom w.heap.size W W' -> Kps Kb W W' -> I pre W' -> BoxAx a ps encs slot T cs w.heap.size Ex x a' W' -> K a' W') ->
  assign.wpIn (F.inRound l) (n - 1 - 1) P (Exit.then K (fun _ _ _ => False)) { tmps := (ps.zip (encs x)).foldl (fun t (p, v) => t.setIfInBounds p v) a.tmps, defers := [] } W)
 (hbody : ∀ (l : Nat) (pre : List α) (x : α) (a' : Act) (W : World), I pre W -> w.heap.size <= W.heap.size -> BoxAx a ps encs slot T cs w.heap.size Ex x a' W -> pre.length < N -> body.wpIn (F.inRound l) (n - 1 - 1) P (ownPostG w.heap.size (Kps Kb) (fun xs W => I xs W /\ w.heap.size <= W.heap.size) (fun _ _ _ => False) (pre ++ [x]) W) a' W)
 (hdone : ∀ (D : Nat) (xs : List α) (W : World), w.heap.size <= D -> S xs -> I xs W -> W.heap[D]? = some (.deferred (some [])) -> Q .normal { a with defers := { target := .collected D, args := #[] } :: a.defers } W) :
 (Code.rangeFunc g ps assign body).wpIn F n P Q a w := by
 refine wpIn_rangeFunc_ownH hro h1 hg hFg eg hseq (fun h k => h.trans k) (fun W l o o' hl ho hc hw b hb => World.putObj_heap_other (by have := hKb b hb; omega)) (Below.refl _ _) hps (fun xs W => I xs W /\ w.heap.size <= W.heap.size) (fun _ _ _ => False) (hI.and (fun s X Y row hs hg hr => Nat.le_trans hs hg.size)) (fun c s X Y row hs hg hr => hs) ⟨h0, Nat.le_refl _⟩ (BoxAx a ps encs slot T cs w.heap.size Ex) (fun x a' => boxAx_own _ _ _ _ _ _ _ _ _ hEx _ _) ?_ ?_ ?_ ?_
 . intro l pre x W K hi hK
   exact hassign l pre x W K hi.1 hi.2 (fun a' W' k1 k2 k3 k4 => hK a' W' k1 k2 ⟨k3, Nat.le_trans hi.2 k1.size⟩ k4)
 . intro l pre x a' W _ _ hi hax hlen
   exact hbody l pre x a' W hi.1 hi.2 hax hlen
 . intro D xs W hD hS hi hK
   exact hdone D xs W hD hS hi.1 hK
 . intro D c pre W hD hS hi hK
   exact hi.elim
end Go.Proofs.YtbiioaggilaebaaGreatDoor.Pa
namespace Go.Proofs.YtbiioaggilaebaaGreatDoor.Pa
open Go Go.RowKit Go.Shelf YtbiioaggilaebaaGreatDoorW.PrintWords B Tm Wi
theorem tx_nil (w : World) (A : Option Addr) (c : Nat) : TxAt w A c [] := ⟨⟨rfl, by simp, fun h => absurd h (by simp)⟩, Nat.zero_le _, Nat.zero_le _, fun x hx => by cases hx⟩
theorem curAt_ops {w : World} {b c : Nat} {cur : Array Value} {l : List Op} (hb : w.heap[b]? = some (.cells cur 38 (0, 0))) (hc : CurAt cur l) (hlc : l.length <= c) (hl : l.length <= 140737488351232) : OpsAt w (some ⟨b, 0, none⟩) c l := by
 refine ⟨hlc, hl, fun _ => ⟨b, 0, rfl, fun j hj => ?_⟩⟩
 obtain ⟨⟨c0, c1, c2, c3, c4⟩, ⟨L, cl, c5⟩, c6⟩ := hc j l[j] (List.getElem?_eq_getElem hj)
 refine ⟨L, cl, fun i hi => ?_, by rw [c6]; exact tx_nil _ _ _⟩
 have hcells : opCells l[j] L cl = #[.int .i64 l[j].k, .int .i64 l[j].a, .int .i64 l[j].m, .int .i64 l[j].b, .int .i64 l[j].n, .slice L 0 cl] := by unfold opCells; rw [c6]; rfl
 rw [Nat.zero_add, cell_of hb, hcells]
 match i, hi with
 | 0, _ => exact c0
 | 1, _ => exact c1
 | 2, _ => exact c2
 | 3, _ => exact c3
 | 4, _ => exact c4
 | 5, _ => exact c5
theorem ORow.form {base : Nat} {w : World} {v : Value} {L : List Op} (h : ORow base w v L) : (v = .slice none 0 0 /\ L = []) \/
 ∃ g cap cur, v = .slice (some ⟨g, 0, none⟩) L.length cap /\ base <= g /\ w.heap[g]? = some (.cells cur 38 (0, 0)) /\ CurAt cur L /\ L.length <= cap := by
 obtain ⟨cs, ⟨k1, k2⟩, h2⟩ := h
 rcases k2 with ⟨rfl, h0⟩ | ⟨g, cap, cur, rfl, e2, e3, e4, e5, e6, e7⟩
 . exact .inl ⟨rfl, List.eq_nil_of_length_eq_zero h0⟩
 . refine .inr ⟨g, cap, cur, rfl, e2, e3, fun j o hj => ?_, e4⟩
   have hjl := (List.getElem?_eq_some_iff.1 hj).1
   have e : ∀ i, i < 6 -> cur[j * 6 + i]? = cs.toArray[j * 6 + i]? := fun i hi => by
    have h9 : (cur.toList.take (L.length * 6))[j * 6 + i]? = cs[j * 6 + i]? := by rw [e7]
    rw [List.getElem?_take, if_pos (by omega), Array.getElem?_toList] at h9
    simpa using h9
   have e0 := e 0 (by omega)
   rw [Nat.add_zero] at e0
   rw [e0, e 1 (by omega), e 2 (by omega), e 3 (by omega), e 4 (by omega), e 5 (by omega)]
   exact h2 j o hj
theorem strRow_one {base : Nat} {w : World} {g : Nat} {s : ByteArray} (hb : base <= g) (h : w.heap[g]? = some (.cells #[.string s] 9 (0, 0))) : StrRow base w (.slice (some ⟨g, 0, none⟩) 1 1) [s] :=
 ⟨rfl, .inr ⟨g, 1, _, rfl, hb, h, Nat.le_refl _, by unfold maxLen; omega, rfl, rfl⟩⟩
theorem refOk_lt {own deps t n : Int} (hd : 0 <= deps) (h : refOk own deps t n = true) : t < deps := by
 unfold refOk at h
 split at h
 . omega
 . split at h
   . omega
   . simp only [decide_eq_true_eq] at h; omega
theorem pfits_refs {note : ByteArray} {deps : List ByteArray} {ops : List Op} (h : pfits note deps ops = true) (o : Op) (ho : o ∈ ops) : o.a < deps.length /\ o.b < deps.length := by
 unfold pfits at h
 simp only [Bool.and_eq_true, decide_eq_true_eq] at h
 obtain ⟨i, hi, rfl⟩ := List.getElem_of_mem ho
 have h1 := List.all_eq_true.1 h.2.2.1 i (List.mem_range.2 hi)
 simp only [List.getElem?_eq_getElem hi] at h1
 have hd : (0 : Int) <= deps.length := by omega
 unfold opOk twoOk at h1
 split at h1
 . simp only [Bool.and_eq_true] at h1
   exact ⟨refOk_lt hd h1.1.1, refOk_lt hd h1.1.2.1⟩
 . split at h1
   . simp only [Bool.and_eq_true] at h1
     exact ⟨refOk_lt hd h1.1.1, refOk_lt hd h1.1.2.1⟩
   . split at h1
     . simp only [Bool.and_eq_true, decide_eq_true_eq] at h1
       have := refOk_lt hd h1.1
       omega
     . cases h1
theorem binv_refs {d : Int} : ∀ (l : List Op) (n : Int), (∀ o ∈ l, o.a < d /\ o.b < d) -> ∀ o ∈ binv n l, o.a < d /\ o.b < d \/ o.a < 0 /\ o.k ≠ 2 /\ o.k ≠ 3
 | [], n, _, o, ho => by rw [binv] at ho; cases ho
 | p :: l, n, h, o, ho => by
  rw [binv, List.mem_append] at ho
  rcases ho with ho | ho
  . have hp := h p (by simp)
    unfold stepI dels at ho
    split at ho
    . obtain ⟨i, _, rfl⟩ := List.mem_map.1 ho
      exact .inr ⟨by show (-2 : Int) < 0; omega, by show (4 : Int) ≠ 2; omega, by show (4 : Int) ≠ 3; omega⟩
    . split at ho
      . rw [List.mem_singleton] at ho; subst ho; exact .inl hp
      . rw [List.mem_singleton] at ho; subst ho; exact .inl hp
  . exact binv_refs l _ (fun x hx => h x (by simp [hx])) o ho
def bops (ops : List Op) : List Op := binv (made ops) ops.reverse
theorem bops_refs {note : ByteArray} {deps : List ByteArray} {ops : List Op} (h : pfits note deps ops = true) (o : Op) (ho : o ∈ bops ops) : o.a < deps.length /\ o.b < deps.length \/ o.a < deps.length /\ o.k ≠ 2 /\ o.k ≠ 3 := by
 have := binv_refs ops.reverse (made ops) (fun p hp => pfits_refs h p (List.mem_reverse.1 hp)) o ho
 rcases this with h | h
 . exact .inl h
 . exact .inr ⟨by omega, h.2⟩
theorem bops_len (ops : List Op) : (bops ops).length <= made ops + ops.length := by
 have h := binv_len ops.reverse (made ops)
 have e : made ops.reverse = made ops := by unfold made; rw [List.map_reverse, List.sum_reverse]
 rw [e, List.length_reverse] at h
 exact h
def ideps (name : ByteArray) (deps : List ByteArray) (ops : List Op) : List ByteArray := ofL (Lib.compact (sortL (toL (name :: (bops ops).flatMap (opd deps)))))
def iops (name : ByteArray) (deps : List ByteArray) (ops : List Op) : List Op := (bops ops).map (tnOp deps (ideps name deps ops) name)
theorem range_rev (zs : List OpX) : ((List.finRange zs.length).reverse.map fun j => zs[j.1].o) = (zs.map OpX.o).reverse := by
 rw [List.map_reverse]
 congr 1
 apply List.ext_getElem
 . simp
 . intro i h1 h2
   simp
end Go.Proofs.YtbiioaggilaebaaGreatDoor.Pa
namespace Go.Proofs.YtbiioaggilaebaaGreatDoor.Pa
open Go Go.RowKit B Tm Wi
theorem pname_size (note : ByteArray) (deps : List ByteArray) (ops : List Op) : (pname note deps ops).size = 64 := by
 unfold pname Sha.nameL
 show (List.toArray _).size = 64
 rw [List.size_toArray, Sha.hexL_len, Sha.shaL_len]
theorem compact_mem {zs : List (List UInt8)} {x : List UInt8} (h : x ∈ Lib.compact zs) : x ∈ zs := by
 unfold Lib.compact Lib.compactUpTo at h
 obtain ⟨i, hi, rfl⟩ := List.mem_map.1 h
 have hl := List.mem_range.1 (List.mem_filter.1 hi).1
 rw [getElem!_pos zs.toArray i (by simpa using hl)]
 simp
theorem ofL_toL_mem {l : List ByteArray} {x : ByteArray} : x.data.toList ∈ toL l ↔ x ∈ l := by
 unfold toL
 rw [List.mem_map]
 constructor
 . rintro ⟨y, hy, e⟩
   have : y = x := ByteArray.ext (Array.ext' e)
   rw [<- this]; exact hy
 . intro h
   exact ⟨x, h, rfl⟩
theorem mem_ofL {ss : List (List UInt8)} {x : ByteArray} : x ∈ ofL ss ↔ x.data.toList ∈ ss := by
 unfold ofL
 rw [List.mem_map]
 constructor
 . rintro ⟨y, hy, rfl⟩
   simpa using hy
 . intro h
   exact ⟨_, h, ByteArray.ext (by simp)⟩
theorem sortL_mem {ss : List (List UInt8)} {x : List UInt8} : x ∈ sortL ss ↔ x ∈ ss := by
 unfold sortL
 exact List.mem_mergeSort
theorem dp_mem {deps : List ByteArray} {a : Int} {x : ByteArray} (h : x ∈ dp deps a) : x ∈ deps \/ x = ByteArray.empty := by
 unfold dp at h
 split at h
 . rw [List.mem_singleton] at h
   subst h
   by_cases hl : a.toNat < deps.length
   . rw [List.getD_eq_getElem?_getD, List.getElem?_eq_getElem hl]
     exact .inl (List.getElem_mem hl)
   . rw [List.getD_eq_getElem?_getD, List.getElem?_eq_none (by omega)]
     exact .inr rfl
 . cases h
theorem ideps_mem {name : ByteArray} {deps : List ByteArray} {ops : List Op} {x : ByteArray} (h : x ∈ ideps name deps ops) : x = name \/ x ∈ deps \/ x = ByteArray.empty := by
 unfold ideps at h
 have h1 := sortL_mem.1 (compact_mem (mem_ofL.1 h))
 rw [ofL_toL_mem] at h1
 rcases List.mem_cons.1 h1 with h1 | h1
 . exact .inl h1
 . right
   obtain ⟨o, _, ho⟩ := List.mem_flatMap.1 h1
   unfold opd at ho
   rw [List.mem_append] at ho
   rcases ho with ho | ho
   . exact dp_mem ho
   . split at ho
     . exact dp_mem ho
     . cases ho
theorem ideps_size {note name : ByteArray} {deps : List ByteArray} {ops ops' : List Op} (hn : name = pname note deps ops') (hd : ∀ x ∈ deps, x.size <= 140737488351232) : ∀ x ∈ ideps name deps ops, x.size <= 140737488351232 := by
 intro x hx
 rcases ideps_mem hx with rfl | h | rfl
 . rw [hn, pname_size]; omega
 . exact hd x h
 . show 0 <= _; omega
end Go.Proofs.YtbiioaggilaebaaGreatDoor.Pa
namespace Go.Proofs.YtbiioaggilaebaaGreatDoor.Pa
open Go Go.RowKit Go.Shelf YtbiioaggilaebaaGreatDoorW.PrintWords B Tm Wi
attribute [local go_sem] Oper.semAt_some
theorem inverse_bad (note : ByteArray) (D : Option Addr) (dc : Nat) (deps : List ByteArray) (A : Option Addr) (ac : Nat) (ops : List Op) (w : World) (hp : pright note deps ops = false) (hD : TxAt w D dc deps) (hO : OpsAt w A ac ops) (htab : Tab w) (hgB : 2 < w.heap.size) :
 Calls Tryz.prog 10 #[.agg #[.string note, .slice D deps.length dc, .slice A ops.length ac]] w fun e w' => e = .returned (.tuple #[.agg #[.string ⟨#[]⟩, .slice none 0 0, .slice none 0 0], .iface 54 (.int .i64 10)]) /\ Below w.heap.size w w' := by
 obtain ⟨R, hR⟩ : ∃ R : Ending -> World -> Prop, R = fun e w' => e = .returned (.tuple #[.agg #[.string ⟨#[]⟩, .slice none 0 0, .slice none 0 0], .iface 54 (.int .i64 10)]) /\ Below w.heap.size w w' := ⟨_, rfl⟩
 rw [<- hR]
 replace hR := lh hR
 obtain ⟨P1, hP1⟩ : ∃ P1, P1 = w.heap.size := ⟨_, rfl⟩
 obtain ⟨w1, hw1⟩ : ∃ w1, w1 = w.alloc (.cells #[.string note, .slice D deps.length dc, .slice A ops.length ac] 25) := ⟨_, rfl⟩
 obtain ⟨w2, hw2⟩ : ∃ w2, w2 = w1.alloc (.cells #[.string ⟨#[]⟩, .slice none 0 0, .slice none 0 0] 25) := ⟨_, rfl⟩
 have hs1 : w1.heap.size = P1 + 1 := by rw [hw1, hP1]; simp
 have hb2 := lh (show Below w.heap.size w w2 by rw [hw2, hw1]; exact ((Below.refl _ _).alloc (Nat.le_refl _) _).alloc (by simp) _)
 have hpt1 : PatAt w1 P1 note D deps.length dc A ops.length ac := by unfold PatAt; rw [hw1, hP1]; exact heap_alloc_at _ _
 have hpt2 := lh (show PatAt w2 P1 note D deps.length dc A ops.length ac by unfold PatAt; rw [hw2, heap_alloc_lt _ _ _ (by omega)]; exact hpt1)
 have hrs2 := lh (show w2.heap[P1 + 1]? = some (.cells #[.string ⟨#[]⟩, .slice none 0 0, .slice none 0 0] 25 (0, 0)) by rw [hw2, <- hs1]; exact heap_alloc_at _ _)
 have CN := lh (show Calls Tryz.prog 11 #[.agg #[.string note, .slice D deps.length dc, .slice A ops.length ac]] w2 fun e w' => e = .returned (.tuple #[.string ⟨#[]⟩, .iface 54 (.int .i64 10)]) /\ Below w2.heap.size w2 w' by
  have := pname_c note D dc deps A ac ops w2 (hD.below hb2.out) (hO.below hb2.out) (htab.keep hb2.out hgB) (Nat.lt_of_lt_of_le hgB hb2.out.size)
  unfold nmOf at this
  rw [hp, if_neg (by simp)] at this
  exact this)
 have hPw := lh (show w.heap.size <= P1 + 1 by omega)
 clear hp hD hO htab hgB hpt1
 obtain ⟨nd, hnd⟩ : ∃ nd, nd = deps.length := ⟨_, rfl⟩
 obtain ⟨no, hno⟩ : ∃ no, no = ops.length := ⟨_, rfl⟩
 rw [<- hnd, <- hno] at hw1 CN hpt2 ⊢
 replace hnd := lh hnd
 replace hno := lh hno
 refine callsIn_wide (n := 9) |>.1 ?_
 refine callsIn_of_wp_marks Tryz.func10 rfl trivial ?_ rfl
 simp only [Tryz.ntmps10, List.size_toArray, List.length_cons, List.length_nil, Nat.reduceAdd, Nat.reduceSub, Array.replicate_succ, Array.replicate_zero, List.push_toArray, List.append_toArray, List.nil_append, List.cons_append]
 refine wpIn_wide.2 ?_
 obtain ⟨p0, p1, p2, _, _⟩ := blk3' hpt2.out
 go_upto_region 1 with fail
 rw [<- hw1, <- hP1]
 try rw [hs1]
 rw [<- hw2]
 replace hw1 := lh hw1
 replace hw2 := lh hw2
 replace hs1 := lh hs1
 replace hP1 := lh hP1
 go_wp2_with fail
 refine (CN.out).mono ?_
 rintro ev w3 ⟨rfl, hb3⟩
 have hb3w := lh (hb2.out.trans (hb3.mono hb2.out.size))
 have hrs3 := lh ((hb3.block _ (heap_lt hrs2.out)).trans hrs2.out)
 clear hb3 p0 p1 p2 CN
 obtain ⟨w4, hw4⟩ : ∃ w4, w4 = w3.alloc (.cells #[.string ⟨#[]⟩] 9) := ⟨_, rfl⟩
 have hb4 := lh (show Below w3.heap.size w3 w4 by rw [hw4]; exact (Below.refl _ _).alloc (Nat.le_refl _) _)
 have hb4w := lh (hb3w.out.trans (hb4.out.mono hb3w.out.size))
 have hrs4 := lh ((hb4.out.block _ (heap_lt hrs3.out)).trans hrs3.out)
 go_upto_region 2 with fail
 rw [<- hw4]
 replace hw4 := lh hw4
 obtain ⟨r0, r1, r2, rsh, rfz⟩ := blk3' hrs4.out
 go_wp2_with fail
 refine ⟨_, Go.Proofs.YtbiioaggilaebaaGreatDoor.Tm.results_cell_tmp rfl _ _ (P1 + 1) 25 #[.string ⟨#[]⟩, .slice none 0 0, .slice none 0 0] (0, 0) _ rfl (set3 hrs4.out) Tryz.underlying25 rfl (by kernel_rfl) _ rfl, ?_⟩
 rw [hR.out]
 exact ⟨rfl, ((hb4w.out.setCell hPw.out _).setCell hPw.out _).setCell hPw.out _⟩
end Go.Proofs.YtbiioaggilaebaaGreatDoor.Pa
