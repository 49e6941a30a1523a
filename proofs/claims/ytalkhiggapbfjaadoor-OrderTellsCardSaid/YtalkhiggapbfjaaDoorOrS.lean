/- order.Linear: what its last loops keep. -/
import Derived.Test.YtalkhiggapbfjaaDoorOrN
import Derived.Test.YtalkhiggapbfjaaDoorHpV
set_option linter.unusedVariables false
set_option linter.unusedSimpArgs false
namespace Go.Proofs.YtalkhiggapbfjaaDoor.Hp
open Go Go.RowKit Go.Proofs.YtalkhiggapbfjaaDoor.B Go.Proofs.YtalkhiggapbfjaaDoor.St
theorem HeapAt.same {R base : Nat} {v : Value} {hp : List ByteArray} {W W' : World} (h : HeapAt R base v hp W) (hR : W'.heap[R]? = W.heap[R]?) (hv : ∀ q, v.ownBlock = some q → W'.heap[q]? = W.heap[q]?) (hs : W.heap.size ≤ W'.heap.size) : HeapAt R base v hp W' := by
  obtain ⟨l, h1, h2, h3, h4, h5⟩ := h
  exact ⟨l, h1, h2, hR.trans h3, h4.same hv, Nat.le_trans h5 hs⟩
theorem HeapAt.own {R base : Nat} {v : Value} {hp : List ByteArray} {W : World} (h : HeapAt R base v hp W) : W.heap[R]? = some (.cells #[v] 53 (0, 0)) := by obtain ⟨l, _, _, h3, _⟩ := h; exact h3
theorem HeapAt.row {R base : Nat} {v : Value} {hp : List ByteArray} {W : World} (h : HeapAt R base v hp W) (q : Nat) (hq : v.ownBlock = some q) : base ≤ q ∧ q < W.heap.size ∧ ∃ cur, W.heap[q]? = some (.cells cur 9 (0, 0)) := by
  obtain ⟨l, _, _, _, h4, _⟩ := h
  exact ⟨(h4.lt q hq).1, (h4.lt q hq).2, h4.cells q hq⟩
theorem HeapAt.base {R base : Nat} {v : Value} {hp : List ByteArray} {W : World} (h : HeapAt R base v hp W) : base ≤ W.heap.size := by obtain ⟨l, _, _, _, _, h5⟩ := h; exact h5
end Go.Proofs.YtalkhiggapbfjaaDoor.Hp
namespace Go.Proofs.YtalkhiggapbfjaaDoor.Orp
open Go Go.RowKit Go.Proofs.YtalkhiggapbfjaaDoor.B Go.Proofs.YtalkhiggapbfjaaDoor.St Go.Proofs.YtalkhiggapbfjaaDoor.Mp
open Go.Proofs.YtalkhiggapbfjaaDoor.Hp (ltB HeapAt HAt Hgr le)
/-- How many needs of a name aren't told. -/
def cntT (zs : List Nx) (told : List ByteArray) (s : ByteArray) : Nat := miss told (once (depsOf zs s))
noncomputable def cnt6 (zs : List Nx) (told : List ByteArray) (s : ByteArray) (us : List ByteArray) (j : Nat) (y : ByteArray) : Nat := open Classical in if y ∈ us.take j then cntT zs (told ++ [s]) y else cntT zs told y
theorem cnt6_zero (zs : List Nx) (told : List ByteArray) (s : ByteArray) (us : List ByteArray) : cnt6 zs told s us 0 = cntT zs told := by funext y; unfold cnt6; simp
theorem cnt6_at {zs : List Nx} {told : List ByteArray} {s : ByteArray} {us : List ByteArray} (hn : us.Nodup) {j : Nat} (hj : j < us.length) : cnt6 zs told s us j us[j] = cntT zs told us[j] := by unfold cnt6; rw [if_neg (nodup_take_not hn hj)]
theorem cnt6_now {zs : List Nx} {told : List ByteArray} {s : ByteArray} {us : List ByteArray} {j : Nat} (hj : j < us.length) : cnt6 zs told s us (j + 1) us[j] = cntT zs (told ++ [s]) us[j] := by unfold cnt6; rw [if_pos ((take_succ_mem hj).2 (.inl rfl))]
theorem cnt6_next {zs : List Nx} {told : List ByteArray} {s : ByteArray} {us : List ByteArray} {j : Nat} (hj : j < us.length) (hu : us[j] ∈ names zs) : upd (WF (names zs) (cnt6 zs told s us j)) us[j] (.int .i64 ((cntT zs (told ++ [s]) us[j] : Nat) : Int)) = WF (names zs) (cnt6 zs told s us (j + 1)) := by
  rw [WF_upd hu]
  refine WF_congr fun y _ => ?_
  by_cases e : y = us[j]
  · rw [if_pos e, e, cnt6_now hj]
  · rw [if_neg e]
    unfold cnt6
    by_cases h : y ∈ us.take j
    · rw [if_pos h, if_pos ((take_succ_mem hj).2 (.inr h))]
    · rw [if_neg h, if_neg (fun h2 => ((take_succ_mem hj).1 h2).elim e h)]
theorem name_nx {zs : List Nx} {y : ByteArray} (h : y ∈ names zs) : ∃ z ∈ zs, z.nm = y := by
  unfold names at h
  obtain ⟨z, hz, e⟩ := List.mem_map.1 h
  exact ⟨z, hz, e⟩
theorem nds_nd {zs : List Nx} {x : Nd ByteArray} (h : x ∈ nds zs) : ∃ z ∈ zs, z.nd = x := by
  unfold nds at h
  obtain ⟨z, hz, e⟩ := List.mem_map.1 h
  exact ⟨z, hz, e⟩
theorem cnt6_end {zs : List Nx} (hn : (names zs).Nodup) (told : List ByteArray) (s : ByteArray) : WF (names zs) (cnt6 zs told s (usersOf (nds zs) s) (usersOf (nds zs) s).length) = WF (names zs) (cntT zs (told ++ [s])) := WF_congr fun y hy => by
  unfold cnt6
  rw [List.take_of_length_le (Nat.le_refl _)]
  by_cases h : y ∈ usersOf (nds zs) s
  · rw [if_pos h]
  · rw [if_neg h]
    obtain ⟨z, hz, rfl⟩ := name_nx hy
    unfold cntT
    rw [depsOf_nm hn hz]
    exact (miss_same (fun hm => h (users_mem.2 ⟨z.nd, List.mem_map.2 ⟨z, hz, rfl⟩, rfl, once_mem.1 hm⟩))).symm
theorem cnt_dec {zs : List Nx} (hn : (names zs).Nodup) {told : List ByteArray} {s u : ByteArray} (hs : s ∉ told) (hu : u ∈ usersOf (nds zs) s) : cntT zs told u = cntT zs (told ++ [s]) u + 1 := by
  obtain ⟨x, hx, rfl, hd⟩ := users_mem.1 hu
  obtain ⟨z, hz, rfl⟩ := nds_nd hx
  unfold cntT
  rw [show (Nx.nd z).nm = z.nm from rfl, depsOf_nm hn hz]
  exact miss_step hs (once_nodup _) (once_mem.2 hd)
theorem users_names {zs : List Nx} {s u : ByteArray} (hu : u ∈ usersOf (nds zs) s) : u ∈ names zs := by
  obtain ⟨x, hx, rfl, _⟩ := users_mem.1 hu
  obtain ⟨z, hz, rfl⟩ := nds_nd hx
  exact List.mem_map.2 ⟨z, hz, rfl⟩
theorem users_len (zs : List Nx) (s : ByteArray) : (usersOf (nds zs) s).length ≤ zs.length := by
  unfold usersOf nds
  rw [List.length_map]
  refine Nat.le_trans (List.length_filter_le _ _) ?_
  rw [List.length_map]
  exact Nat.le_refl _
def needN (x : Nd ByteArray) : List ByteArray := once x.deps
/-- Ready at first. -/
theorem rn_nil {zs : List Nx} (hn : (names zs).Nodup) {s : ByteArray} : RN (nds zs) [] s ↔ s ∈ names zs ∧ cntT zs [] s = 0 := by
  constructor
  · rintro ⟨x, hx, rfl, _, hd⟩
    obtain ⟨z, hz, rfl⟩ := nds_nd hx
    refine ⟨List.mem_map.2 ⟨z, hz, rfl⟩, ?_⟩
    unfold cntT
    rw [show (Nx.nd z).nm = z.nm from rfl, depsOf_nm hn hz]
    exact miss_zero.2 fun d h => hd d (once_mem.1 h)
  · rintro ⟨h, h0⟩
    obtain ⟨z, hz, rfl⟩ := name_nx h
    unfold cntT at h0
    rw [depsOf_nm hn hz] at h0
    exact ⟨z.nd, List.mem_map.2 ⟨z, hz, rfl⟩, rfl, by simp, fun d hd => miss_zero.1 h0 d (once_mem.2 hd)⟩
theorem rn_names {zs : List Nx} {told : List ByteArray} {s : ByteArray} (h : RN (nds zs) told s) : s ∈ names zs := by
  obtain ⟨x, hx, rfl, _⟩ := h
  obtain ⟨z, hz, rfl⟩ := nds_nd hx
  exact List.mem_map.2 ⟨z, hz, rfl⟩
/-! ### memory -/
/-- The counts, the heap, and what was there when the heap was made (w0). -/
structure S5 (ns : List ByteArray) (w w0 : World) (R : Nat) (v : Value) (hp : List ByteArray) (c : ByteArray → Nat) (p1 : Nat) (W : World) : Prop where
  wait : GMap slit W Tryd.prog 9 w.heap.size p1 (WF ns c)
  heap : HeapAt R w0.heap.size v hp W
  tch : Tch (fun q => q = w.heap.size) w0 W
  old : w.heap.size < w0.heap.size
  new : w0.heap.size ≤ R
theorem S5.push {ns : List ByteArray} {w w0 : World} {R : Nat} {v v' : Value} {hp hp' : List ByteArray} {c : ByteArray → Nat} {p1 : Nat} {W W' : World} (h : S5 ns w w0 R v hp c p1 W) (hh : HeapAt R w0.heap.size v' hp' W') (hg : Hgr R v v' W W') : S5 ns w w0 R v' hp' c p1 W' := by
  have hk : ∀ q, q < w0.heap.size → W'.heap[q]? = W.heap[q]? := fun q hq => hg.2.2.2.2.1 q (Nat.lt_of_lt_of_le hq h.tch.size) (by have := h.new; omega) (fun e => by have := (h.heap.row q e.symm).1; omega)
  exact ⟨h.wait.same (hk _ h.old), hh, ⟨hg.2.1.trans h.tch.os, hg.2.2.1.trans h.tch.tape, hg.2.2.2.1.trans h.tch.output, Nat.le_trans h.tch.size hg.1, fun q hq hs => (hk q hq).trans (h.tch.block q hq hs)⟩, h.old, h.new⟩
theorem S5.count {ns : List ByteArray} {w w0 : World} {R : Nat} {v : Value} {hp : List ByteArray} {c c' : ByteArray → Nat} {p1 : Nat} {W W' : World} (h : S5 ns w w0 R v hp c p1 W) (hm : GMap slit W' Tryd.prog 9 w.heap.size (p1 + 1) (WF ns c')) (ht : W.mapTurned W' w.heap.size) : S5 ns w w0 R v hp c' (p1 + 1) W' := by
  have hob := h.wait.obj
  refine ⟨hm, h.heap.same (turned_at ht (map_ne h.heap.own hob) (heap_lt h.heap.own)) (fun q hq => ?_) (turned_size ht), ⟨ht.grown.os.trans h.tch.os, ht.grown.tape.trans h.tch.tape, ht.grown.output.trans h.tch.output, Nat.le_trans h.tch.size (turned_size ht), fun q hq hs => (turned_at ht hs (Nat.lt_of_lt_of_le hq h.tch.size)).trans (h.tch.block q hq hs)⟩, h.old, h.new⟩
  obtain ⟨_, hlt, cur, hc⟩ := h.heap.row q hq
  exact turned_at ht (map_ne hc hob) hlt
/-- A row of the call's own grows beside it. -/
theorem S5.grew {ns : List ByteArray} {w w0 : World} {R : Nat} {v vl : Value} {hp l : List ByteArray} {c : ByteArray → Nat} {p1 : Nat} {W W' : World} (h : S5 ns w w0 R v hp c p1 W) (hl : SRow w0.heap.size W vl l) (hd : ∀ q, vl.ownBlock = some q → v.ownBlock ≠ some q) (hg : Grew vl W W') : S5 ns w w0 R v hp c p1 W' := by
  have hk : ∀ q, q < W.heap.size → vl.ownBlock ≠ some q → W'.heap[q]? = W.heap[q]? := fun q hq hne => hg.2.2.2.2 q hq (fun e => hne e.symm)
  have hlo : ∀ q, q < w0.heap.size → vl.ownBlock ≠ some q := fun q hq e => by have := (hl.lt q e).1; omega
  refine ⟨h.wait.same (hk _ (Nat.lt_of_lt_of_le h.old h.tch.size) (hlo _ h.old)), h.heap.same (hk R (heap_lt h.heap.own) (fun e => ?_)) (fun q hq => hk q (h.heap.row q hq).2.1 (fun e => hd q e hq)) hg.1, ⟨hg.2.1.trans h.tch.os, hg.2.2.1.trans h.tch.tape, hg.2.2.2.1.trans h.tch.output, Nat.le_trans h.tch.size hg.1, fun q hq hs => (hk q (Nat.lt_of_lt_of_le hq h.tch.size) (hlo q hq)).trans (h.tch.block q hq hs)⟩, h.old, h.new⟩
  obtain ⟨cur, hc⟩ := hl.cells R e
  have := h.heap.own
  rw [hc] at this
  cases this
/-- The row of what was told, beside the heap. -/
def LRow (w0 : World) (v vl : Value) (l : List ByteArray) (W : World) : Prop := SRow w0.heap.size W vl l ∧ ∀ q, vl.ownBlock = some q → v.ownBlock ≠ some q
theorem LRow.push {w0 : World} {R : Nat} {v v' vl : Value} {l hp : List ByteArray} {W W' : World} (h : LRow w0 v vl l W) (hh : HeapAt R w0.heap.size v hp W) (hg : Hgr R v v' W W') : LRow w0 v' vl l W' := by
  refine ⟨h.1.same fun q hq => hg.2.2.2.2.1 q (h.1.lt q hq).2 (fun e => ?_) (fun e => h.2 q hq e.symm), fun q hq e => ?_⟩
  · subst e
    obtain ⟨cur, hc⟩ := h.1.cells q hq
    have := hh.own
    rw [hc] at this
    cases this
  · rcases hg.2.2.2.2.2 with h6 | h6
    · exact h.2 q hq (h6.symm.trans e)
    · have := h6 q e
      have := (h.1.lt q hq).2
      omega
theorem LRow.count {w w0 : World} {v vl : Value} {l : List ByteArray} {W W' : World} (h : LRow w0 v vl l W) (hob : ∃ es clock, W.heap[w.heap.size]? = some (.map es clock)) (ht : W.mapTurned W' w.heap.size) : LRow w0 v vl l W' := by
  refine ⟨h.1.same fun q hq => ?_, h.2⟩
  obtain ⟨cur, hc⟩ := h.1.cells q hq
  exact turned_at ht (map_ne hc hob) (heap_lt hc)
theorem LRow.app {w0 : World} {R g n cap : Nat} {v vl : Value} {l l' hp : List ByteArray} {W W' : World} (h : LRow w0 v vl l W) (hh : HeapAt R w0.heap.size v hp W) (hr : SRow w0.heap.size W' (.slice (some ⟨g, 0, none⟩) n cap) l') (hl : vl.ownBlock = some g ∨ W.heap.size < g) : LRow w0 v (.slice (some ⟨g, 0, none⟩) n cap) l' W' := by
  refine ⟨hr, fun q hq e => ?_⟩
  have hgq : q = g := by simpa [Value.ownBlock] using hq.symm
  subst hgq
  rcases hl with hl | hl
  · exact h.2 q hl e
  · have := (hh.row q e).2.1; omega
theorem S5.made {ns : List ByteArray} {w wr : World} {c : ByteArray → Nat} {p1 : Nat} (hM : GMap slit wr Tryd.prog 9 w.heap.size p1 (WF ns c)) :
    S5 ns w wr (wr.heap.size + 1) (.slice (some ⟨wr.heap.size, 0, none⟩) 0 0) [] c p1 ((wr.alloc (.cells #[] 9)).alloc (.cells #[.slice (some ⟨wr.heap.size, 0, none⟩) 0 0] 53)) := by
  have h1 : ∀ q, q < wr.heap.size → ((wr.alloc (.cells #[] 9)).alloc (.cells #[.slice (some ⟨wr.heap.size, 0, none⟩) 0 0] 53)).heap[q]? = wr.heap[q]? := fun q hq =>
    (heap_alloc_lt _ _ _ (by rw [St.size_alloc]; omega)).trans (heap_alloc_lt _ _ _ hq)
  have hsz : (wr.alloc (.cells #[] 9)).heap.size = wr.heap.size + 1 := St.size_alloc _ _
  refine ⟨hM.same (h1 _ hM.lt), ⟨[], fun k h0 hk => absurd hk (by simp), .refl _, ?_, SRow.empty (Nat.le_refl _) ?_, ?_⟩, ⟨rfl, rfl, rfl, ?_, fun q hq _ => h1 q hq⟩, hM.lt, Nat.le_succ _⟩
  · have := heap_alloc_at (wr.alloc (.cells #[] 9)) (.cells #[.slice (some ⟨wr.heap.size, 0, none⟩) 0 0] 53)
    rw [hsz] at this
    exact this
  · exact (heap_alloc_lt _ _ _ (by rw [hsz]; omega)).trans (heap_alloc_at _ _)
  · rw [St.size_alloc, hsz]; omega
  · rw [St.size_alloc, hsz]; omega
theorem S5.later {ns : List ByteArray} {w w0 : World} {R : Nat} {v : Value} {hp : List ByteArray} {c : ByteArray → Nat} {p1 : Nat} {W W' : World} (h : S5 ns w w0 R v hp c p1 W) (hg : W.grownBy W' none) : S5 ns w w0 R v hp c p1 W' :=
  h.grew (SRow.nil _ _) (fun q hq => by cases hq) ⟨hg.size, hg.os, hg.tape, hg.output, fun b hb _ => hg.block b hb (by simp)⟩
/-- The iterator's step. -/
theorem S5.iter {ns : List ByteArray} {w w0 : World} {R r p : Nat} {v : Value} {hp : List ByteArray} {c : ByteArray → Nat} {p1 cnt : Nat} {f : ByteArray → Option Value} {left : ByteArray → Bool} {W W' : World} (h : S5 ns w w0 R v hp c p1 W) (hr : GRange slit W Tryd.prog 9 w.heap.size r p f left cnt) (hrl : w0.heap.size ≤ r) (hg : W.grownBy W' (some r)) : S5 ns w w0 R v hp c p1 W' := by
  obtain ⟨m, s, seen, c0, hi⟩ := hr.iter
  have hk : ∀ q, q < W.heap.size → q ≠ r → W'.heap[q]? = W.heap[q]? := fun q hq hne => hg.block q hq (fun e => hne (Option.some.inj e))
  refine ⟨h.wait.same (hk _ (Nat.lt_of_lt_of_le h.old h.tch.size) (by have := h.old; omega)), h.heap.same (hk R (heap_lt h.heap.own) (fun e => ?_)) (fun q hq => hk q (h.heap.row q hq).2.1 (fun e => ?_)) hg.size, ⟨hg.os.trans h.tch.os, hg.tape.trans h.tch.tape, hg.output.trans h.tch.output, Nat.le_trans h.tch.size hg.size, fun q hq hs => (hk q (Nat.lt_of_lt_of_le hq h.tch.size) (by omega)).trans (h.tch.block q hq hs)⟩, h.old, h.new⟩
  · have := h.heap.own
    rw [e, hi] at this
    cases this
  · obtain ⟨_, _, cur, hc⟩ := h.heap.row q hq
    rw [e, hi] at hc
    cases hc
/-- A push leaves the range be. -/
theorem range_push {w w0 : World} {ns : List ByteArray} {R r p p1 : Nat} {v v' : Value} {hp : List ByteArray} {c : ByteArray → Nat} {cnt : Nat} {f : ByteArray → Option Value} {left : ByteArray → Bool} {W W' : World} (h : S5 ns w w0 R v hp c p1 W) (hr : GRange slit W Tryd.prog 9 w.heap.size r p f left cnt) (hg : Hgr R v v' W W') : GRange slit W' Tryd.prog 9 w.heap.size r p f left cnt := by
  obtain ⟨m, s, seen, c0, hi⟩ := hr.iter
  have hnew := h.new
  have hold := h.old
  refine hr.same (hg.2.2.2.2.1 _ (Nat.lt_of_lt_of_le h.old h.tch.size) (by omega) (fun e => ?_)) (hg.2.2.2.2.1 r hr.lt (fun e => ?_) (fun e => ?_))
  · have := (h.heap.row _ e.symm).1; omega
  · have := h.heap.own
    rw [← e, hi] at this
    cases this
  · obtain ⟨_, _, cur, hc⟩ := h.heap.row r e.symm
    rw [hi] at hc
    cases hc
theorem cnt2_rows (zs : List Nx) : (∀ d, usersOf (nds (zs.take zs.length)) d = usersOf (nds zs) d) := fun d => by rw [List.take_of_length_le (Nat.le_refl _)]
end Go.Proofs.YtalkhiggapbfjaaDoor.Orp
