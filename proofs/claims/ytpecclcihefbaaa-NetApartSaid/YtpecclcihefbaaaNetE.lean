/- The walk of net.New. -/
import Derived.Test.YtpecclcihefbaaaNetD
import Derived.Deep.RegionHeld3
import Derived.Deep.AppendLies
import Derived.Deep.LoopGhost
import Derived.Laws.MakeOwn
set_option linter.unusedVariables false
set_option linter.unusedSimpArgs false
namespace Go.Proofs.Ytpecclcihefbaaa.NetA
open Go.RowKit Go.Proofs.Ytpecclcihefbaaa.B

def zring : Array Value := ringA (List.replicate 200 d0) 0 0
def ptrs (n : Nat) (f : Nat → Option Nat) : Array Value := ((List.range n).map fun j => Value.pointer ((f j).map fun b => ⟨b, 0, none⟩)).toArray
def rowsL (n m : Nat) (ib : Nat → Nat) : List Value := (List.range m).map fun a => Value.slice (some ⟨ib a, 0, none⟩) n n

structure Made (w0 w : World) (n m : Nat) (v : Value) (ib : Nat → Nat) (pt : Nat → Nat → Option Nat) : Prop where
  tch : Tch (fun _ => False) w0 w
  net : w.heap[w0.heap.size]? = some (.cells #[v] 47 (0, 0))
  own : w.ownsRow (w0.heap.size + 1) 48 1 v m (rowsL n m ib)
  rows : ∀ a, a < m → w.heap[ib a]? = some (.cells (ptrs n (pt a)) 49 (0, 0))
  ibs : ∀ a, a < m → w0.heap.size < ib a ∧ v.ownBlock ≠ some (ib a)
  ibi : ∀ a a', a < m → a' < m → ib a = ib a' → a = a'
  ways : ∀ a j b, a < m → j < n → pt a j = some b → w.heap[b]? = some (.cells zring 54 (0, 0)) ∧ w0.heap.size < b ∧ v.ownBlock ≠ some b ∧ ∀ c, c < m → b ≠ ib c
  inj : ∀ a j a' j' b, a < m → j < n → a' < m → j' < n → pt a j = some b → pt a' j' = some b → a = a' ∧ j = j'

theorem Made.start (w : World) (n : Nat) (ib : Nat → Nat) (pt : Nat → Nat → Option Nat) : Made w (w.alloc (.cells #[.slice none 0 0] 47)) n 0 (.slice none 0 0) ib pt := by
  refine ⟨(Tch.refl _ _).alloc _, heap_alloc_at _ _, ⟨by simp [rowsL], .inl ⟨rfl, rfl⟩⟩, ?_, ?_, ?_, ?_, ?_⟩ <;> (intros; omega)

theorem Made.drew {w0 w : World} {n m : Nat} {v : Value} {ib : Nat → Nat} {pt : Nat → Nat → Option Nat} (h : Made w0 w n m v ib pt) : Made w0 w.drew n m v ib pt :=
  ⟨h.tch.drew, h.net, h.own, h.rows, h.ibs, h.ibi, h.ways, h.inj⟩

/-- A row more. -/
theorem Made.row {w0 w w1 : World} {n m : Nat} {v : Value} {ib : Nat → Nat} {pt : Nat → Nat → Option Nat} (h : Made w0 w n m v ib pt) (g cap r : Nat) (o : Obj)
    (hr : r = w.heap.size)
    (hown : w1.ownsRow (w0.heap.size + 1) 48 1 (.slice (some ⟨g, 0, none⟩) (m + 1) cap) (m + 1) (rowsL n m ib ++ [Value.slice (some ⟨r, 0, none⟩) n n]))
    (hgrow : ((w.alloc (.cells (ptrs n fun _ => none) 49)).alloc o).grownBy w1 v.ownBlock)
    (hat : v.ownBlock = some g ∨ g = w.heap.size + 1 + 1) :
    Made w0 (w1.setCell ⟨w0.heap.size, 0, none⟩ (.slice (some ⟨g, 0, none⟩) (m + 1) cap)) n (m + 1) (.slice (some ⟨g, 0, none⟩) (m + 1) cap) (fun a => if a = m then r else ib a) (fun a => if a = m then fun _ => none else pt a) := by
  subst hr
  have hlt := fun k (hk : v.ownBlock = some k) => h.own.lt k hk
  have hvne : v.ownBlock ≠ some w0.heap.size := fun e => by have := (hlt _ e).1; omega
  have hB : w0.heap.size < w.heap.size := heap_lt h.net
  have hgB : w0.heap.size < g := by
    rcases hat with e | e
    · have := (hlt _ e).1; omega
    · omega
  have keep : ∀ k ob, w.heap[k]? = some ob → v.ownBlock ≠ some k → w1.heap[k]? = some ob := fun k ob hk hne => by
    have l := heap_lt hk
    rw [hgrow.block k (by simp; omega) (fun e => hne e.symm), heap_alloc_lt _ _ _ (by simp; omega), heap_alloc_lt _ _ _ l]; exact hk
  have keep2 : ∀ k ob, w1.heap[k]? = some ob → k ≠ w0.heap.size → (w1.setCell ⟨w0.heap.size, 0, none⟩ (.slice (some ⟨g, 0, none⟩) (m + 1) cap)).heap[k]? = some ob := fun k ob hk hne => by
    rw [heap_set_ne _ _ _ _ hne]; exact hk
  have hrow : w1.heap[w.heap.size]? = some (.cells (ptrs n fun _ => none) 49 (0, 0)) := by
    rw [hgrow.block _ (by simp; omega) (fun e => by have := (hlt _ e.symm).2; omega), heap_alloc_lt _ _ _ (by simp), heap_alloc_at]
  refine ⟨?_, ?_, ?_, ?_, ?_, ?_, ?_, ?_⟩
  · refine Tch.setNew ?_ _ (Nat.le_refl _) _
    refine ⟨hgrow.os.trans h.tch.os, hgrow.tape.trans h.tch.tape, hgrow.output.trans h.tch.output, by have := hgrow.size; simp at this; omega, fun k hk _ => ?_⟩
    rw [hgrow.block k (by simp; omega) (fun e => by have := (hlt _ e.symm).1; omega), heap_alloc_lt _ _ _ (by simp; omega), heap_alloc_lt _ _ _ (by omega)]
    exact h.tch.block k hk (fun e => e)
  · have := heap_set_some (keep _ _ h.net hvne) 0 (.slice (some ⟨g, 0, none⟩) (m + 1) cap)
    simpa using this
  · have e : rowsL n (m + 1) (fun a => if a = m then w.heap.size else ib a) = rowsL n m ib ++ [Value.slice (some ⟨w.heap.size, 0, none⟩) n n] := by
      unfold rowsL
      rw [List.range_succ, List.map_append]
      congr 1
      · exact List.map_congr_left fun a ha => by have := List.mem_range.1 ha; simp only []; rw [if_neg (by omega)]
      · simp
    rw [e]
    exact ownsRow_setCell_below hown (by simp) _
  · intro a ha
    by_cases e : a = m
    · subst e; simp only [if_true]; exact keep2 _ _ hrow (by omega)
    · simp only [if_neg e]
      exact keep2 _ _ (keep _ _ (h.rows a (by omega)) (h.ibs a (by omega)).2) (by have := (h.ibs a (by omega)).1; omega)
  · intro a ha
    have hob : (Value.slice (some ⟨g, 0, none⟩) (m + 1) cap).ownBlock = some g := rfl
    rw [hob]
    by_cases e : a = m
    · subst e; simp only [if_true]
      refine ⟨by omega, fun e2 => ?_⟩
      injection e2 with e2
      rcases hat with e3 | e3
      · have := (hlt _ e3).2; omega
      · omega
    · simp only [if_neg e]
      have hb := h.ibs a (by omega)
      refine ⟨hb.1, fun e2 => ?_⟩
      injection e2 with e2
      rcases hat with e3 | e3
      · exact hb.2 (by rw [e3, e2])
      · have := heap_lt (h.rows a (by omega)); omega
  · intro a a' ha ha' e
    have l1 := fun (k : Nat) (hk : k < m) => heap_lt (h.rows k hk)
    by_cases e1 : a = m <;> by_cases e2 : a' = m
    · omega
    · simp only [e1, e2, if_true, if_false] at e; have := l1 a' (by omega); omega
    · simp only [e1, e2, if_true, if_false] at e; have := l1 a (by omega); omega
    · simp only [e1, e2, if_false] at e; exact h.ibi a a' (by omega) (by omega) e
  · intro a j b ha hj hp
    have hob : (Value.slice (some ⟨g, 0, none⟩) (m + 1) cap).ownBlock = some g := rfl
    rw [hob]
    by_cases e1 : a = m
    · simp [e1] at hp
    · simp only [if_neg e1] at hp
      obtain ⟨q1, q2, q3, q4⟩ := h.ways a j b (by omega) hj hp
      refine ⟨keep2 _ _ (keep _ _ q1 q3) (by omega), q2, fun e2 => ?_, fun c hc => ?_⟩
      · injection e2 with e2
        rcases hat with e3 | e3
        · exact q3 (by rw [e3, e2])
        · have := heap_lt q1; omega
      · by_cases e2 : c = m
        · rw [if_pos e2]; have := heap_lt q1; omega
        · rw [if_neg e2]; exact q4 c (by omega)
  · intro a j a' j' b ha hj ha' hj' hp hp'
    by_cases e1 : a = m
    · simp [e1] at hp
    · by_cases e2 : a' = m
      · simp [e2] at hp'
      · simp only [if_neg e1] at hp; simp only [if_neg e2] at hp'
        exact h.inj a j a' j' b (by omega) hj (by omega) hj' hp hp'

theorem ptrs_set (n : Nat) (f : Nat → Option Nat) (j b : Nat) (hj : j < n) : (ptrs n f).setIfInBounds j (.pointer (some ⟨b, 0, none⟩)) = ptrs n (fun k => if k = j then some b else f k) := by
  unfold ptrs
  rw [List.setIfInBounds_toArray]
  congr 1
  apply List.ext_getElem?
  intro k
  rw [List.getElem?_set]
  simp only [List.length_map, List.length_range, List.getElem?_map]
  by_cases hk : k < n
  · rw [List.getElem?_range hk]
    by_cases e : j = k
    · subst e; simp [hj]
    · rw [if_neg e]; simp [Ne.symm e]
  · rw [List.getElem?_eq_none (by simp; omega)]
    rw [if_neg (by omega)]; rfl

/-- A way more. -/
theorem Made.way {w0 w : World} {n m : Nat} {v : Value} {ib : Nat → Nat} {pt : Nat → Nat → Option Nat} (h : Made w0 w n (m + 1) v ib pt) (j : Nat) (hj : j < n) :
    Made w0 ((w.setCell ⟨ib m, j, none⟩ (.pointer (some ⟨w.heap.size, 0, none⟩))).alloc (.cells zring 54)) n (m + 1) v ib (fun a k => if a = m ∧ k = j then some w.heap.size else pt a k) := by
  have hr := h.rows m (by omega)
  have hib := h.ibs m (by omega)
  have hB : w0.heap.size < w.heap.size := heap_lt h.net
  have hs : (w.setCell ⟨ib m, j, none⟩ (.pointer (some ⟨w.heap.size, 0, none⟩))).heap.size = w.heap.size := size_set _ _ _
  have keep : ∀ k ob, w.heap[k]? = some ob → k ≠ ib m → ((w.setCell ⟨ib m, j, none⟩ (.pointer (some ⟨w.heap.size, 0, none⟩))).alloc (.cells zring 54)).heap[k]? = some ob := fun k ob hk hne => by
    rw [heap_alloc_lt _ _ _ (by rw [hs]; exact heap_lt hk), heap_set_ne _ _ _ _ hne]; exact hk
  have hv : ∀ k, v.ownBlock = some k → k < w.heap.size := fun k hk => (h.own.lt k hk).2
  refine ⟨(h.tch.setNew _ (by show w0.heap.size ≤ ib m; omega) _).alloc _, keep _ _ h.net (by omega), ?_, ?_, h.ibs, h.ibi, ?_, ?_⟩
  · refine World.ownsRow.alloc ?_ _
    refine h.own.kept (row := some (ib m)) ⟨rfl, rfl, rfl, by rw [hs]; exact Nat.le_refl _, fun k hk hne => heap_set_ne _ _ _ _ fun e => hne (by rw [e])⟩ (.inr hib.2)
  · intro a ha
    by_cases e : a = m
    · subst e
      have := heap_set_some hr j (.pointer (some ⟨w.heap.size, 0, none⟩))
      rw [ptrs_set _ _ _ _ hj] at this
      rw [heap_alloc_lt _ _ _ (heap_lt this), this]
      congr 3
      funext k
      by_cases e2 : k = j <;> simp [e2]
    · rw [keep _ _ (h.rows a ha) fun e2 => e (h.ibi a m ha (by omega) e2)]
      congr 3
      funext k
      rw [if_neg (by omega)]
  · intro a k b ha hk hp
    by_cases e : a = m ∧ k = j
    · rw [if_pos e] at hp
      injection hp with hp
      subst hp
      refine ⟨?_, hB, fun e2 => by have := hv _ e2; omega, fun c hc => by have := heap_lt (h.rows c hc); omega⟩
      have := heap_alloc_at (w.setCell ⟨ib m, j, none⟩ (.pointer (some ⟨w.heap.size, 0, none⟩))) (.cells zring 54)
      rwa [hs] at this
    · rw [if_neg e] at hp
      obtain ⟨q1, q2, q3, q4⟩ := h.ways a k b ha hk hp
      exact ⟨keep _ _ q1 (q4 m (by omega)), q2, q3, q4⟩
  · intro a k a' k' b ha hk ha' hk' hp hp'
    have l := fun x y z (h1 : x < m + 1) (h2 : y < n) (h3 : pt x y = some z) => heap_lt (h.ways x y z h1 h2 h3).1
    by_cases e : a = m ∧ k = j <;> by_cases e' : a' = m ∧ k' = j
    · exact ⟨by omega, by omega⟩
    · rw [if_pos e] at hp; rw [if_neg e'] at hp'
      injection hp with hp
      have := l a' k' b ha' hk' hp'; omega
    · rw [if_neg e] at hp; rw [if_pos e'] at hp'
      injection hp' with hp'
      have := l a k b ha hk hp; omega
    · rw [if_neg e] at hp; rw [if_neg e'] at hp'
      exact h.inj a k a' k' b ha hk ha' hk' hp hp'

end Go.Proofs.Ytpecclcihefbaaa.NetA
