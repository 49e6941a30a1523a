/- Rows of texts sorted, and what stands twice struck (XPcF for seats without patches). -/
import Derived.Test.YtalkhiggapbfjaaDoorStr
import Derived.Test.YtalkhiggapbfjaaDoorShelf
set_option linter.unusedVariables false
set_option linter.unusedSimpArgs false
namespace Go.Proofs.YtalkhiggapbfjaaDoor.St
open Go Go.RowKit Go.Sort Go.Proofs.YtalkhiggapbfjaaDoor.B

def toL (l : List ByteArray) : List (List UInt8) := l.map fun s => s.data.toList
def ofL (ss : List (List UInt8)) : List ByteArray := ss.map fun s => ⟨s.toArray⟩
theorem ofL_toL (l : List ByteArray) : ofL (toL l) = l := by
  unfold ofL toL
  rw [List.map_map]
  conv => rhs; rw [← List.map_id l]
  rfl
theorem ofL_len (ss : List (List UInt8)) : (ofL ss).length = ss.length := by unfold ofL; simp
theorem toL_len (l : List ByteArray) : (toL l).length = l.length := by unfold toL; simp
theorem heap_map (w : World) (blk : Nat) (f : Array Value → Array Value) (cur : Array Value) (t : TypeId) (fr : Nat × Nat) (h : w.heap[blk]? = some (.cells cur t fr)) : (mapBlock w blk f).heap[blk]? = some (.cells (f cur) t fr) := by
  unfold mapBlock
  simp only [Array.getElem?_modify, if_true, h]
  rfl
theorem heap_map_ne (w : World) (blk : Nat) (f : Array Value → Array Value) (k : Nat) (hk : k ≠ blk) : (mapBlock w blk f).heap[k]? = w.heap[k]? := by
  unfold mapBlock
  simp only [Array.getElem?_modify]
  rw [if_neg (fun e => hk e.symm)]
theorem heap_map_size (w : World) (blk : Nat) (f : Array Value → Array Value) : (mapBlock w blk f).heap.size = w.heap.size := by
  unfold mapBlock
  simp
/-- A row of texts put anew. -/
theorem row_put {base : Nat} {w W : World} {g n cap n' q : Nat} {cur : Array Value} {os : Array Obj} {ss : List (List UInt8)} {l : List ByteArray} (hb : base ≤ g) (hg : w.heap[g]? = some (.cells cur 9 (0, 0))) (hn : n ≤ cap) (hcap : cap ≤ maxLen) (hsz : cur.size = cap * 1)
    (hss : ss.length = n) (hn' : n' ≤ n) (hl : l.length = n') (htake : ss.take n' = toL l) (hW : W = grow (putRow encStr (Sort.ahead w q) g 0 ss.toArray) os) :
    SRow base W (.slice (some ⟨g, 0, none⟩) n' cap) l ∧ Grew (.slice (some ⟨g, 0, none⟩) n cap) w W := by
  have hgl := heap_lt hg
  have h1 : (putRow encStr (Sort.ahead w q) g 0 ss.toArray).heap[g]? = some (.cells (putCells encStr 0 ss.toArray cur) 9 (0, 0)) := heap_map _ _ _ _ _ _ hg
  have hz : (putRow encStr (Sort.ahead w q) g 0 ss.toArray).heap.size = w.heap.size := heap_map_size _ _ _
  have h2 : W.heap[g]? = some (.cells (putCells encStr 0 ss.toArray cur) 9 (0, 0)) := by
    rw [hW, heap_grow_old _ _ (by rw [hz]; exact hgl)]
    exact h1
  subst hl
  refine ⟨⟨by simp, .inr ⟨g, cap, _, rfl, hb, h2, by omega, hcap, by unfold putCells; rw [Array.size_mapIdx]; exact hsz, ?_⟩⟩, ?_⟩
  · apply List.ext_getElem?
    intro i
    rw [List.getElem?_take, List.getElem?_map]
    by_cases hi : i < l.length * 1
    · rw [if_pos hi]
      have hil : i < l.length := by omega
      have his : i < ss.length := by omega
      have h3 : ss[i]? = some (l[i].data.toList) := by
        have h4 : (ss.take l.length)[i]? = (toL l)[i]? := by rw [htake]
        rw [List.getElem?_take, if_pos hil] at h4
        rw [h4]
        unfold toL
        rw [List.getElem?_map, List.getElem?_eq_getElem hil]
        rfl
      obtain ⟨hi3, e3⟩ := List.getElem?_eq_some_iff.1 h3
      unfold putCells
      rw [Array.getElem?_toList, Array.getElem?_mapIdx, Array.getElem?_eq_getElem (show i < cur.size by omega), Option.map_some, if_pos ⟨Nat.zero_le _, by simp; omega⟩, List.getElem?_eq_getElem hil]
      have : ss.toArray[i - 0]! = l[i].data.toList := by
        rw [Nat.sub_zero, getElem!_pos ss.toArray i (by simpa using his)]
        simpa using e3
      rw [this]
      rfl
    · rw [if_neg hi, List.getElem?_eq_none (by omega)]
      rfl
  · refine ⟨by rw [hW, size_grow, hz]; omega, by rw [hW]; rfl, by rw [hW]; rfl, by rw [hW]; rfl, fun b hb' hne => ?_⟩
    rw [hW, heap_grow_old _ _ (by rw [hz]; exact hb')]
    exact heap_map_ne _ _ _ _ (fun e => hne (by subst e; rfl))
theorem row_holds {w : World} {g n : Nat} {cur : Array Value} {l : List ByteArray} (hg : w.heap[g]? = some (.cells cur 9 (0, 0))) (hl : l.length = n) (ht : cur.toList.take (n * 1) = l.map fun s => .string s) : Holds encStr w g 0 (toL l).toArray := by
  intro j hj
  have hjl : j < l.length := by simpa [toL] using hj
  refine ⟨?_, fr_of hg _⟩
  rw [Nat.zero_add, cell_of hg]
  have h1 : (cur.toList.take (n * 1))[j]? = (l.map fun s => Value.string s)[j]? := by rw [ht]
  rw [List.getElem?_take, if_pos (by omega), Array.getElem?_toList, List.getElem?_map, List.getElem?_eq_getElem hjl] at h1
  rw [h1, getElem!_pos _ j hj]
  simp [toL, encStr]
def sortL (ss : List (List UInt8)) : List (List UInt8) := ss.mergeSort fun x y => decide (x ≤ y)
def Sorts (base : Nat) (v : Value) (l : List ByteArray) (w : World) (e : Ending) (w' : World) : Prop := e = .returned (.tuple #[]) ∧ SRow base w' v l ∧ Grew v w w'
def Compacts (base : Nat) (v : Value) (l : List ByteArray) (w : World) (e : Ending) (w' : World) : Prop := ∃ v', e = .returned v' ∧ SRow base w' v' l ∧ Grew v w w' ∧ ∀ k, v'.ownBlock = some k → base ≤ k
theorem sort_c {base : Nat} {w : World} {v : Value} {l : List ByteArray} (h : SRow base w v l) (hn : l.length ≤ 1000000) : Calls Tryd.prog 19 #[v] w (Sorts base v (ofL (sortL (toL l))) w) := by
  rcases h.2 with ⟨rfl, h0⟩ | ⟨g, cap, cur, rfl, e2, e3, e4, e5, e6, e7⟩
  · obtain rfl : l = [] := List.eq_nil_of_length_eq_zero h0
    refine (Tryd.slices_Sort_string_none none 0 w).mono ?_
    rintro e w' ⟨rfl, rfl⟩
    exact ⟨rfl, by rw [show ofL (sortL (toL [])) = [] by simp [ofL, sortL, toL]]; exact h, Grew.refl _ _⟩
  · have hH := row_holds e3 rfl e7
    have := Tryd.slices_Sort_string g 0 cap (toL l) w hH (heap_lt e3) (by rw [toL_len]; omega)
    rw [toL_len] at this
    refine this.mono ?_
    rintro e w' ⟨rfl, q, os, hw⟩
    have hlen : (sortL (toL l)).length = l.length := by unfold sortL; rw [List.length_mergeSort, toL_len]
    obtain ⟨h1, h2⟩ := row_put (n' := l.length) (l := ofL (sortL (toL l))) e2 e3 e4 e5 e6 hlen (Nat.le_refl _) (by rw [ofL_len, hlen]) (by
      rw [List.take_of_length_le (by omega)]
      unfold toL ofL
      rw [List.map_map]
      conv => lhs; rw [← List.map_id (sortL _)]
      rfl) hw
    exact ⟨rfl, h1, h2⟩
theorem compact_len (zs : List (List UInt8)) : (Lib.compact zs).length ≤ zs.length := by
  unfold Lib.compact Lib.compactUpTo
  rw [List.length_map]
  exact Nat.le_trans (List.length_filter_le _ _) (by rw [List.length_range]; exact Nat.le_refl _)
theorem compact_c {base : Nat} {w : World} {v : Value} {ss : List (List UInt8)} (h : SRow base w v (ofL ss)) (hn : ss.length ≤ 1000000) : Calls Tryd.prog 20 #[v] w (Compacts base v (ofL (Lib.compact ss)) w) := by
  have hts : toL (ofL ss) = ss := by
    unfold toL ofL
    rw [List.map_map]
    conv => rhs; rw [← List.map_id ss]
    rfl
  rcases h.2 with ⟨rfl, h0⟩ | ⟨g, cap, cur, rfl, e2, e3, e4, e5, e6, e7⟩
  · rw [ofL_len] at h0
    obtain rfl : ss = [] := List.eq_nil_of_length_eq_zero h0
    refine (Tryd.slices_Compact_string_empty none 0 w).mono ?_
    rintro e w' ⟨rfl, rfl⟩
    exact ⟨_, rfl, h, Grew.refl _ _, fun k hk => by cases hk⟩
  · have hH := row_holds e3 rfl e7
    rw [hts] at hH
    have hle := compact_len ss
    have := Tryd.slices_Compact_string g 0 cap ss w hH (by omega) (by rw [ofL_len] at e4; exact e4)
    rw [ofL_len]
    rw [ofL_len] at e4
    refine this.mono ?_
    rintro e w' ⟨rfl, q, hw⟩
    obtain ⟨h1, h2⟩ := row_put (W := w') (q := q) (ss := Lib.compact ss ++ List.replicate (ss.length - (Lib.compact ss).length) []) (n := ss.length) (n' := (Lib.compact ss).length) (l := ofL (Lib.compact ss)) (os := #[]) e2 e3 e4 e5 e6 (by simp; omega) hle (by rw [ofL_len]) (by
      rw [List.take_left' rfl]
      unfold toL ofL
      rw [List.map_map]
      conv => lhs; rw [← List.map_id (Lib.compact ss)]
      rfl) (by rw [grow_empty]; exact hw)
    refine ⟨_, rfl, h1, h2, fun k hk => ?_⟩
    cases hk
    exact e2
end Go.Proofs.YtalkhiggapbfjaaDoor.St
