/- Rows of bytes that a call builds: append, and the text of them. -/
import Derived.Test.YtpecclcihefbaaaDoorBase
import Derived.Test.YtpecclcihefbaaaDoorProg
import Derived.Deep.AppendLies
import Derived.Laws.IdiomStrings
import Derived.Laws.BytesArg
import Derived.KernelRfl
set_option linter.unusedVariables false
namespace Go.Proofs.YtpecclcihefbaaaDoor.B
open Go.RowKit

/-- Bytes as cells. -/
def bc (l : List UInt8) : List Value := l.map fun b => .int .u8 (b.toNat : Int)
theorem bc_append (a b : List UInt8) : bc (a ++ b) = bc a ++ bc b := List.map_append ..
theorem bc_length (a : List UInt8) : (bc a).length = a.length := List.length_map ..
theorem bc_get (l : List UInt8) (j : Nat) (h : j < l.length) : (bc l)[j]? = some (.int .u8 (l[j].toNat : Int)) := by
  simp [bc, List.getElem?_eq_getElem h]

theorem info8 : ∃ i, Tryd.prog.info? 5 = some i ∧ i.zero = some (.int .u8 0) ∧ i.size = 1 ∧ i.bytes = 1 := by
  have h : (Tryd.prog.info? 5).map (fun i => (i.zero, i.size, i.bytes)) = some (some (.int .u8 0), 1, 1) := by kernel_rfl
  match hi : Tryd.prog.info? 5, h with
  | some i, h =>
    simp only [Option.map_some, Option.some.injEq, Prod.mk.injEq] at h
    exact ⟨i, rfl, h.1, h.2.1, h.2.2⟩

theorem own_conv (w : World) (base : Nat) (v : Value) (l : List UInt8) (h : w.ownsRow base 5 1 v l.length (bc l)) :
    (convert 48 9 v).run Tryd.prog w = .ok (.string ⟨l.toArray⟩) w := by
  rcases h.2 with ⟨rfl, h0⟩ | ⟨g, cap, cur, rfl, _, hg, _, _, hs, ht⟩
  · obtain rfl : l = [] := List.eq_nil_of_length_eq_zero h0
    exact run_convert_bytes_nil w 48 5 Tryd.underlying48 Tryd.underlying5 0 0 9 Tryd.underlying9
  · refine run_convert_bytes_back w 48 9 5 _ cap l Tryd.underlying48 Tryd.underlying5 Tryd.underlying9 fun j hj => ?_
    rw [add0, cell_of hg, ← bc_get l j hj, ← ht, List.getElem?_take, if_pos (by omega), Array.getElem?_toList]

theorem own_nil (w : World) (base : Nat) : w.ownsRow base 5 1 (.slice none 0 0) 0 (bc []) := ⟨rfl, .inl ⟨rfl, rfl⟩⟩
/-- What grew was a row of the call's own. -/
theorem own_tch {w w' w0 : World} {base n : Nat} {e : TypeId} {size : Nat} {v : Value} {xs : List Value} {S : Nat → Prop} (h : Tch S w0 w) (ho : w.ownsRow base e size v n xs) (hb : w0.heap.size ≤ base) (hg : w.grownBy w' v.ownBlock) : Tch S w0 w' :=
  ⟨hg.os.trans h.os, hg.tape.trans h.tape, hg.output.trans h.output, Nat.le_trans h.size hg.size, fun k hk hs =>
    (hg.block k (Nat.lt_of_lt_of_le hk h.size) (fun e => by have := (ho.lt k e.symm).1; omega)).trans (h.block k hk hs)⟩

theorem own_keep {w w' : World} {base n size : Nat} {e : TypeId} {v : Value} {xs : List Value} (h : w.ownsRow base e size v n xs) (ht : Tch (fun _ => False) w w') : w'.ownsRow base e size v n xs :=
  h.kept (row := none) ⟨ht.os, ht.tape, ht.output, ht.size, fun k hk _ => ht.block k hk (fun e => e)⟩ (by cases v.ownBlock <;> simp)

/-- '[]byte(s)': a row of the call's own that holds s. -/
theorem bytes_of (w : World) (s : ByteArray) : ∃ cap w1 cells fz, (convert 9 48 (.string s)).run Tryd.prog w = .ok (.slice (some ⟨w.heap.size, 0, none⟩) s.size cap) w1 ∧
    Below w.heap.size w w1 ∧ w1.heap.size = w.heap.size + 1 ∧ w1.heap[w.heap.size]? = some (.cells cells 5 fz) ∧ cells.size = cap ∧ s.size ≤ cap ∧
    cells.toList.take s.size = bc s.data.toList ∧ (∀ j, j < cap → w1.frozen? ⟨w.heap.size, j, none⟩ = false) ∧ fz.1 = cap ∧ (s.size ≤ maxLen → cap ≤ maxLen) := by
  have hge := grownCap_ge w s.size 0 5
  refine ⟨_, _, bytesRow s (grownCap w s.size 0 5), ((bytesRow s (grownCap w s.size 0 5)).size, (bytesRow s (grownCap w s.size 0 5)).size + 1), run_bytes_of_string w 9 48 5 s Tryd.underlying9 Tryd.underlying48 Tryd.underlying5, ?_, ?_, ?_, ?_, hge, ?_, ?_, ?_, fun h => grownCap_le_maxLen w s.size 0 _ h⟩
  · exact (⟨rfl, rfl, rfl, Nat.le_refl _, fun _ _ => rfl⟩ : Below w.heap.size w w.drew).alloc (Nat.le_refl _) _
  · simp
  · exact heap_alloc_at w.drew _
  · simp [bytesRow]; have : s.data.size = s.size := rfl; omega
  · simp only [bytesRow, Array.toList_append, Array.toList_map]
    rw [List.take_append_of_le_length (by simp), List.take_of_length_le (by simp)]
    rfl
  · intro j hj
    have := heap_alloc_at w.drew (.cells (bytesRow s (grownCap w s.size 0 5)) 5 ((bytesRow s (grownCap w s.size 0 5)).size, (bytesRow s (grownCap w s.size 0 5)).size + 1))
    have hs : (bytesRow s (grownCap w s.size 0 5)).size = grownCap w s.size 0 5 := by simp [bytesRow]; have : s.data.size = s.size := rfl; omega
    change (w.drew.alloc _).heap[w.heap.size]? = _ at this
    have hf : ∀ (W : World) (fz : Nat × Nat) (C : Array Value) (t : TypeId), W.heap[w.heap.size]? = some (.cells C t fz) → j < fz.1 → W.frozen? ⟨w.heap.size, j, none⟩ = false := by
      intro W fz C t h1 h2
      unfold World.frozen?
      rw [h1]
      simp; omega
    exact hf _ _ _ _ this (by rw [hs]; exact hj)
  · simp [bytesRow]; have : s.data.size = s.size := rfl; omega

end Go.Proofs.YtpecclcihefbaaaDoor.B
