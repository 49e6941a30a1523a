/- Rows of texts that a call builds: what they hold, one cell of them written, one text appended, the last one struck. -/
import Derived.Test.YtalkhiggapbfjaaDoorBase
import Derived.Test.YtalkhiggapbfjaaDoorProg
import Derived.Deep.AppendLies
import Derived.Laws.OwnMore
import Derived.RowKit
set_option linter.unusedVariables false
set_option linter.unusedSimpArgs false
namespace Go.Proofs.YtalkhiggapbfjaaDoor.St
open Go Go.RowKit Go.Proofs.YtalkhiggapbfjaaDoor.B
/-- A row of texts. -/
def SRow (base : Nat) (W : World) (v : Value) (l : List ByteArray) : Prop := W.ownsRow base 9 1 v l.length (l.map fun s => .string s)
theorem SRow.nil (base : Nat) (W : World) : SRow base W (.slice none 0 0) [] := ⟨rfl, .inl ⟨rfl, rfl⟩⟩
theorem SRow.empty {base : Nat} {W : World} {g : Nat} (hb : base ≤ g) (h : W.heap[g]? = some (.cells #[] 9 (0, 0))) : SRow base W (.slice (some ⟨g, 0, none⟩) 0 0) [] :=
  ⟨rfl, .inr ⟨g, 0, #[], rfl, hb, h, Nat.le_refl _, by unfold maxLen; omega, rfl, rfl⟩⟩
theorem SRow.lt {base : Nat} {W : World} {v : Value} {l : List ByteArray} (h : SRow base W v l) (k : Nat) (hk : v.ownBlock = some k) : base ≤ k ∧ k < W.heap.size := by
  have := World.ownsRow.lt h k hk
  exact ⟨this.1, this.2⟩
/-- What such a value looks like. -/
theorem SRow.form {base : Nat} {W : World} {v : Value} {l : List ByteArray} (h : SRow base W v l) : (v = .slice none 0 0 ∧ l = []) ∨
    ∃ g cap cur, v = .slice (some ⟨g, 0, none⟩) l.length cap ∧ base ≤ g ∧ W.heap[g]? = some (.cells cur 9 (0, 0)) ∧ l.length ≤ cap ∧ cap ≤ maxLen ∧ cur.size = cap ∧ cur.toList.take l.length = l.map fun s => .string s := by
  rcases h.2 with ⟨rfl, h0⟩ | ⟨g, cap, cur, rfl, e2, e3, e4, e5, e6, e7⟩
  · exact .inl ⟨rfl, List.eq_nil_of_length_eq_zero h0⟩
  · exact .inr ⟨g, cap, cur, rfl, e2, e3, e4, e5, by omega, by rw [← e7, Nat.mul_one]⟩
theorem SRow.shape {base : Nat} {W : World} {v : Value} {l : List ByteArray} (h : SRow base W v l) : ∃ A cap, v = .slice A l.length cap := by
  rcases h.form with ⟨rfl, rfl⟩ | ⟨g, cap, cur, rfl, _⟩
  · exact ⟨none, 0, rfl⟩
  · exact ⟨_, cap, rfl⟩
theorem SRow.addr {base : Nat} {W : World} {A : Option Addr} {n cap : Nat} {l : List ByteArray} (h : SRow base W (.slice A n cap) l) (h0 : 0 < n) : ∃ g, A = some ⟨g, 0, none⟩ ∧ n = l.length := by
  rcases h.form with ⟨e, _⟩ | ⟨g, cap, cur, e, _⟩
  · cases e; omega
  · cases e; exact ⟨g, rfl, rfl⟩
theorem SRow.mk {base : Nat} {W : World} {l : List ByteArray} {g n cap : Nat} {cur : Array Value} (hb : base ≤ g) (h : W.heap[g]? = some (.cells cur 9 (0, 0))) (hn : l.length = n) (h1 : n ≤ cap) (h2 : cap ≤ maxLen) (h3 : cur.size = cap) (h4 : cur.toList.take n = l.map fun s => .string s) : SRow base W (.slice (some ⟨g, 0, none⟩) n cap) l := by
  subst hn
  exact ⟨by simp, .inr ⟨g, cap, cur, rfl, hb, h, h1, h2, by omega, by rw [Nat.mul_one]; exact h4⟩⟩
theorem SRow.same {base : Nat} {W W' : World} {v : Value} {l : List ByteArray} (h : SRow base W v l) (hk : ∀ b, v.ownBlock = some b → W'.heap[b]? = W.heap[b]?) : SRow base W' v l := by
  obtain ⟨k1, k2⟩ := h
  refine ⟨k1, ?_⟩
  rcases k2 with k2 | ⟨g, cap, cur, rfl, e2, e3, e4⟩
  · exact .inl k2
  · exact .inr ⟨g, cap, cur, rfl, e2, (hk g rfl).trans e3, e4⟩
theorem SRow.base {b0 b1 : Nat} {W : World} {v : Value} {l : List ByteArray} (h : SRow b0 W v l) (hk : ∀ b, v.ownBlock = some b → b1 ≤ b) : SRow b1 W v l := by
  obtain ⟨k1, k2⟩ := h
  refine ⟨k1, ?_⟩
  rcases k2 with k2 | ⟨g, cap, cur, rfl, e2, e3⟩
  · exact .inl k2
  · exact .inr ⟨g, cap, cur, rfl, hk g rfl, e3⟩
theorem SRow.cells {base : Nat} {W : World} {v : Value} {l : List ByteArray} (h : SRow base W v l) (k : Nat) (hk : v.ownBlock = some k) : ∃ cur, W.heap[k]? = some (.cells cur 9 (0, 0)) := by
  rcases h.form with ⟨rfl, _⟩ | ⟨g, cap, cur, rfl, e2, e3, _⟩
  · cases hk
  · cases hk
    exact ⟨cur, e3⟩
/-- A text of the row. -/
theorem SRow.at {base : Nat} {W : World} {g n cap : Nat} {l : List ByteArray} (h : SRow base W (.slice (some ⟨g, 0, none⟩) n cap) l) (i : Nat) (hi : i < l.length) : W.cell? ⟨g, i, none⟩ = some (.string (l.getD i ByteArray.empty)) := by
  rcases h.form with ⟨h1, _⟩ | ⟨g', cap', cur, e1, e2, e3, e4, e5, e6, e7⟩
  · cases h1
  · cases e1
    rw [cell_of e3]
    have : (l.map fun s => Value.string s)[i]? = some (.string (l.getD i ByteArray.empty)) := by rw [List.getElem?_map, List.getD_eq_getElem?_getD, List.getElem?_eq_getElem hi]; rfl
    rw [← e7, List.getElem?_take, if_pos hi, Array.getElem?_toList] at this
    exact this
/-- One text put in its place. -/
theorem SRow.put {base : Nat} {W : World} {g n cap : Nat} {l : List ByteArray} (h : SRow base W (.slice (some ⟨g, 0, none⟩) n cap) l) (i : Nat) (s : ByteArray) : SRow base (W.setCell ⟨g, i, none⟩ (.string s)) (.slice (some ⟨g, 0, none⟩) n cap) (l.set i s) := by
  rcases h.form with ⟨h1, _⟩ | ⟨g', cap', cur, e1, e2, e3, e4, e5, e6, e7⟩
  · cases h1
  · cases e1
    refine SRow.mk e2 (heap_set _ _ _ _ _ _ _ e3) (by simp) e4 e5 (by simp [e6]) ?_
    rw [List.map_set, ← e7]
    apply List.ext_getElem?
    intro k
    rw [List.getElem?_take, Array.getElem?_toList, Array.getElem?_setIfInBounds, List.getElem?_set, List.getElem?_take, Array.getElem?_toList, List.length_take]
    have hlen : cur.toList.length = cur.size := by simp
    by_cases hk : k < l.length
    · rw [if_pos hk, if_pos hk]
      by_cases e : i = k
      · subst e
        rw [if_pos rfl, if_pos rfl, if_pos (by omega), if_pos (by omega)]
      · rw [if_neg e, if_neg e]
    · rw [if_neg hk, if_neg hk]
      by_cases e : i = k
      · subst e
        rw [if_pos rfl, if_neg (by omega)]
      · rw [if_neg e]
/-- The last one struck. -/
theorem SRow.cut {base : Nat} {W : World} {g n cap m : Nat} {l : List ByteArray} (h : SRow base W (.slice (some ⟨g, 0, none⟩) n cap) l) (hm : m ≤ n) : SRow base W (.slice (some ⟨g, 0, none⟩) m cap) (l.take m) := by
  rcases h.form with ⟨h1, _⟩ | ⟨g', cap', cur, e1, e2, e3, e4, e5, e6, e7⟩
  · cases h1
  · cases e1
    refine SRow.mk e2 e3 (by rw [List.length_take]; omega) (by omega) e5 e6 ?_
    rw [List.map_take, ← e7, List.take_take, Nat.min_eq_left hm]
/-- The world behind a step: what was there and is not the row is as it was. -/
def Grew (v : Value) (w w' : World) : Prop := w.heap.size ≤ w'.heap.size ∧ w'.os = w.os ∧ w'.tape = w.tape ∧ w'.output = w.output ∧ ∀ b, b < w.heap.size → some b ≠ v.ownBlock → w'.heap[b]? = w.heap[b]?
theorem Grew.refl (v : Value) (w : World) : Grew v w w := ⟨Nat.le_refl _, rfl, rfl, rfl, fun _ _ _ => rfl⟩
theorem Grew.heap {v : Value} {w w' : World} (h : Grew v w w') {b : Nat} {o : Obj} (hc : w.heap[b]? = some o) (hne : some b ≠ v.ownBlock) : w'.heap[b]? = some o := (h.2.2.2.2 _ (heap_lt hc) hne).trans hc
theorem Grew.cell {v : Value} {w w' : World} (h : Grew v w w') {p : Addr} {u : Value} (hc : w.cell? p = some u) (hne : some p.block ≠ v.ownBlock) : w'.cell? p = some u :=
  (World.cell?_of_block (h.2.2.2.2 _ (World.block_lt_of_cell? w p hc) hne)).trans hc
theorem infoS : ∃ i, Tryd.prog.info? 9 = some i ∧ i.zero = some (.string ⟨#[]⟩) ∧ i.size = 1 ∧ i.bytes = 16 := by
  have h : (Tryd.prog.info? 9).map (fun i => (i.zero, i.size, i.bytes)) = some (some (.string ⟨#[]⟩), 1, 16) := by kernel_rfl
  match hi : Tryd.prog.info? 9, h with
  | some i, h =>
    simp only [Option.map_some, Option.some.injEq, Prod.mk.injEq] at h
    exact ⟨i, rfl, h.1, h.2.1, h.2.2⟩
theorem size_alloc (w : World) (o : Obj) : (w.alloc o).heap.size = w.heap.size + 1 := by simp
/-- 's = append(s, x)'. -/
theorem str_app {ops : Array Oper} {rest : List Oper} {o : Oper} {a : Act} {Q : Exit → Act → World → Prop} {base : Nat} {w : World} {v : Value} {l : List ByteArray} {x : ByteArray} (hgd : o.guard = none) (s y : Operand) (t : TypeId)
    (ho : o.op = .call { callee := .builtin .append, args := #[s, y], argTypes := #[t, t] }) (ht : Tryd.prog.underlying t = some (.slice 9))
    (hs : a.eval s = v) (n c : Nat) (hx : a.eval y = .slice (some ⟨w.heap.size, 0, none⟩) 1 c) (hrow : SRow base w v l) (hn : l.length = n) (hb : n ≤ 1000000) (hbase : base ≤ w.heap.size)
    (h : ∀ g cap w', SRow base w' (.slice (some ⟨g, 0, none⟩) (n + 1) cap) (l ++ [x]) → Grew v w w' → (v.ownBlock = some g ∨ w.heap.size < g) → wpList Tryd.prog ops Q rest (a.put o.dst (.slice (some ⟨g, 0, none⟩) (n + 1) cap)) w') :
    wpList Tryd.prog ops Q (o :: rest) a (w.alloc (.cells #[.string x] 9)) := by
  subst hn
  obtain ⟨iF, hiF, hzF, hsF, hbF⟩ := infoS
  have hown := hrow
  unfold SRow at hown
  refine wpList_append_lies _ hgd s y t ho base 9 iF _ 1 16 ht hiF hzF hsF hbF rfl (by omega) v l.length _ hs (hown.alloc _) ⟨w.heap.size, 0, none⟩ 1 c [.string x] hx rfl (World.news_of_block (heap_alloc_at w _)) (fun u hu => by rw [List.mem_singleton] at hu; subst hu; rfl) (by omega) (by unfold maxLen; omega) (by omega) (by simp; omega) (w.heap.size + 1) (by simp) ?_
  intro g cap w' hown' hgrow hat hlt
  have hsz := hgrow.size
  rw [size_alloc] at hsz
  refine h g cap w' ?_ ⟨by omega, hgrow.os, hgrow.tape, hgrow.output, fun k h1 h2 => (hgrow.block k (by rw [size_alloc]; omega) h2).trans (heap_alloc_lt w _ _ h1)⟩ (hat.imp id fun e => by omega)
  unfold SRow
  rw [List.map_append, List.length_append]
  exact hown'
/-- .. at a step of a region that draws its order. -/
theorem str_step {ops : Array Oper} {o : Oper} {a : Act} {K : Act → World → Prop} {Q : Exit → Act → World → Prop} {E : Prop} {base : Nat} {w : World} {v : Value} {l : List ByteArray} {x : ByteArray} (hgd : o.guard = none) (s y : Operand) (t : TypeId)
    (ho : o.op = .call { callee := .builtin .append, args := #[s, y], argTypes := #[t, t] }) (ht : Tryd.prog.underlying t = some (.slice 9))
    (hs : a.eval s = v) (n c H : Nat) (hx : a.eval y = .slice (some ⟨H, 0, none⟩) 1 c) (hnew : w.heap[H]? = some (.cells #[.string x] 9 (0, 0))) (hrow : SRow base w v l) (hn : l.length = n) (hb : n ≤ 1000000) (hbase : base ≤ w.heap.size)
    (h : ∀ g cap w', SRow base w' (.slice (some ⟨g, 0, none⟩) (n + 1) cap) (l ++ [x]) → Grew v w w' → (v.ownBlock = some g ∨ w.heap.size ≤ g) → K (a.put o.dst (.slice (some ⟨g, 0, none⟩) (n + 1) cap)) w') :
    if Region.wanted o (yielded ops a.tmps) = true then Oper.wp Tryd.prog o a w K Q else E := by
  subst hn
  obtain ⟨iF, hiF, hzF, hsF, hbF⟩ := infoS
  have hown := hrow
  unfold SRow at hown
  refine step_append_lies _ hgd s y t ho base 9 iF _ 1 16 ht hiF hzF hsF hbF rfl (by omega) v l.length _ hs hown ⟨H, 0, none⟩ 1 c [.string x] hx rfl (World.news_of_block hnew) (fun u hu => by rw [List.mem_singleton] at hu; subst hu; rfl) (by omega) (by unfold maxLen; omega) (by omega) hbase _ rfl ?_
  intro g cap w' hown' hgrow hat hlt
  refine h g cap w' ?_ ⟨hgrow.size, hgrow.os, hgrow.tape, hgrow.output, fun k h1 h2 => hgrow.block k h1 h2⟩ (hat.imp id fun e => by omega)
  unfold SRow
  rw [List.map_append, List.length_append]
  exact hown'
end Go.Proofs.YtalkhiggapbfjaaDoor.St
