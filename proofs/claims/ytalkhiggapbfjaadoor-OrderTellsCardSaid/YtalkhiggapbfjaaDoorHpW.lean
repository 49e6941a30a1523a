/- The methods of order's ready: their walks. -/
import Derived.Test.YtalkhiggapbfjaaDoorHpM
import Derived.Test.YtalkhiggapbfjaaDoorHpP
import Derived.Test.YtalkhiggapbfjaaDoorStr
import Derived.Deep.RegionLaw
import Derived.WalkLawsBesides
set_option linter.unusedVariables false
set_option linter.unusedSimpArgs false
namespace Go.Proofs.YtalkhiggapbfjaaDoor.Hp
open Go Go.RowKit Go.Proofs.YtalkhiggapbfjaaDoor.B Go.Proofs.YtalkhiggapbfjaaDoor.St
/-- The order of texts. -/
def ltB (x y : ByteArray) : Prop := Op.bytesLess x.toList y.toList = true
theorem len_c (A : Option Addr) (n c : Nat) (w : World) : Calls Tryd.prog 22 #[.slice A n c] w fun e w' => e = .returned (.int .i64 n) ∧ w' = w := by
  go_enter Tryd.func22, Tryd.ntmps22
  go_wp2
  go_ret
  exact ⟨rfl, rfl⟩
theorem less_c {base g n cap : Nat} {l : List ByteArray} {w : World} (h : SRow base w (.slice (some ⟨g, 0, none⟩) n cap) l) (hn : l.length = n) (i j : Nat) (hi : i < n) (hj : j < n) (hm : n ≤ 1000000) (b : Bool)
    (hb : Op.bytesLess (l.getD i ByteArray.empty).toList (l.getD j ByteArray.empty).toList = b) :
    Calls Tryd.prog 92 #[.slice (some ⟨g, 0, none⟩) n cap, .int .i64 i, .int .i64 j] w fun e w' => e = .returned (.bool b) ∧ ∃ k, w' = w.drewN k := by
  have ci := h.at i (by omega)
  have cj := h.at j (by omega)
  obtain ⟨x, hx⟩ : ∃ x, x = l.getD i ByteArray.empty := ⟨_, rfl⟩
  obtain ⟨y, hy⟩ : ∃ y, y = l.getD j ByteArray.empty := ⟨_, rfl⟩
  rw [← hx] at ci hb
  rw [← hy] at cj hb
  have hi0 : (0 : Int) ≤ (i : Int) := by omega
  have hi1 : (i : Int) < (n : Int) := by omega
  have hj0 : (0 : Int) ≤ (j : Int) := by omega
  have hj1 : (j : Int) < (n : Int) := by omega
  clear hx hy h hn
  go_enter Tryd.func92, Tryd.ntmps92
  go_wp2
  go_quiet (fail)
  go_wp2
  go_ret
  exact ⟨rfl, _, rfl⟩
theorem swap_c {base g n cap : Nat} {l : List ByteArray} {w : World} (h : SRow base w (.slice (some ⟨g, 0, none⟩) n cap) l) (hn : l.length = n) (i j : Nat) (hi : i < n) (hj : j < n) (hm : n ≤ 1000000) :
    Calls Tryd.prog 95 #[.slice (some ⟨g, 0, none⟩) n cap, .int .i64 i, .int .i64 j] w fun e w' => e = .returned (.tuple #[]) ∧ SRow base w' (.slice (some ⟨g, 0, none⟩) n cap) (sw ByteArray.empty l i j) ∧ Grew (.slice (some ⟨g, 0, none⟩) n cap) w w' := by
  have ci := h.at i (by omega)
  have cj := h.at j (by omega)
  obtain ⟨x, hx⟩ : ∃ x, x = l.getD i ByteArray.empty := ⟨_, rfl⟩
  obtain ⟨y, hy⟩ : ∃ y, y = l.getD j ByteArray.empty := ⟨_, rfl⟩
  rw [← hx] at ci
  rw [← hy] at cj
  have hi0 : (0 : Int) ≤ (i : Int) := by omega
  have hi1 : (i : Int) < (n : Int) := by omega
  have hj0 : (0 : Int) ≤ (j : Int) := by omega
  have hj1 : (j : Int) < (n : Int) := by omega
  obtain ⟨cur, hgb⟩ := h.cells g rfl
  have fi := fr_of hgb i
  have fj := fr_of hgb j
  replace hgb := Lib.hid hgb
  replace hx := Lib.hid hx
  replace hy := Lib.hid hy
  replace h := Lib.hid h
  replace hn := Lib.hid hn
  go_enter Tryd.func95, Tryd.ntmps95
  go_wp2
  obtain ⟨v1, hv1⟩ := cell?_setCell_some (w := w) (p := ⟨g, i, none⟩) (x := .string y) (q := ⟨g, j, none⟩) (v := .string y) cj
  obtain ⟨v2, hv2⟩ := cell?_setCell_some (w := w) (p := ⟨g, j, none⟩) (x := .string x) (q := ⟨g, i, none⟩) (v := .string x) ci
  go_region
  all_goals
    go_end0
    refine ⟨rfl, ?_, ?_⟩
    · have h1 := (h.out.put i y).put j x
      rw [hx.out, hy.out] at h1
      rw [hx.out, hy.out]
      exact h1
    · refine ⟨by show _ ≤ ((w.setCell _ _).setCell _ _).heap.size; rw [size_set, size_set]; exact Nat.le_refl _, rfl, rfl, rfl, fun b hb hne => ?_⟩
      have hbg : b ≠ g := fun e => hne (by rw [e]; rfl)
      exact (heap_set_ne _ _ _ _ hbg).trans (heap_set_ne _ _ _ _ hbg)
/-- What a step of the heap at block R touches: its row was v's, is v''s. -/
def Hgr (R : Nat) (v v' : Value) (w w' : World) : Prop := w.heap.size ≤ w'.heap.size ∧ w'.os = w.os ∧ w'.tape = w.tape ∧ w'.output = w.output ∧ (∀ b, b < w.heap.size → b ≠ R → some b ≠ v.ownBlock → w'.heap[b]? = w.heap[b]?) ∧ (v'.ownBlock = v.ownBlock ∨ ∀ k, v'.ownBlock = some k → w.heap.size ≤ k)
theorem Hgr.refl (R : Nat) (v : Value) (w : World) : Hgr R v v w w := ⟨Nat.le_refl _, rfl, rfl, rfl, fun _ _ _ _ => rfl, .inl rfl⟩
theorem Hgr.trans {R : Nat} {v v' v'' : Value} {w w' w'' : World} (h : Hgr R v v' w w') (k : Hgr R v' v'' w' w'') : Hgr R v v'' w w'' := by
  obtain ⟨h1, h2, h3, h4, h5, h6⟩ := h
  obtain ⟨k1, k2, k3, k4, k5, k6⟩ := k
  refine ⟨Nat.le_trans h1 k1, k2.trans h2, k3.trans h3, k4.trans h4, fun b hb hR hv => (k5 b (Nat.lt_of_lt_of_le hb h1) hR (fun e => ?_)).trans (h5 b hb hR hv), ?_⟩
  · rcases h6 with h6 | h6
    · exact hv (e.trans h6)
    · have := h6 b e.symm; omega
  · rcases k6 with k6 | k6
    · rw [k6]; exact h6
    · exact .inr fun b hb => Nat.le_trans h1 (k6 b hb)
theorem Hgr.of_grew {R : Nat} {v v' : Value} {w w' : World} (h : Grew v w w') (hv : v'.ownBlock = v.ownBlock) : Hgr R v v' w w' := ⟨h.1, h.2.1, h.2.2.1, h.2.2.2.1, fun b hb _ hne => h.2.2.2.2 b hb hne, .inl hv⟩
theorem Hgr.drewN {R : Nat} {v v' : Value} {w w' : World} (h : Hgr R v v' w w') (n : Nat) : Hgr R v v' w (w'.drewN n) := h
/-- Block R holds v, which owns the row l. -/
def HAt (R base : Nat) (v : Value) (l : List ByteArray) (w : World) : Prop := w.heap[R]? = some (.cells #[v] 53 (0, 0)) ∧ SRow base w v l ∧ base ≤ w.heap.size
theorem HAt.ne {R base : Nat} {v : Value} {l : List ByteArray} {w : World} (h : HAt R base v l w) : some R ≠ v.ownBlock := fun e => by
  obtain ⟨cur, hc⟩ := h.2.1.cells R e.symm
  rw [h.1] at hc
  cases hc
def PushPost (R base : Nat) (v : Value) (l : List ByteArray) (w : World) (e : Ending) (w' : World) : Prop := e = .returned (.tuple #[]) ∧ ∃ v', HAt R base v' l w' ∧ Hgr R v v' w w'
theorem push_end {R base g cap m : Nat} {v : Value} {l l' : List ByteArray} {w w1 : World} {o : Obj} (h : HAt R base v l w) (hrow : SRow base w1 (.slice (some ⟨g, 0, none⟩) m cap) l') (hg : Grew v (w.alloc o) w1) (hloc : v.ownBlock = some g ∨ (w.alloc o).heap.size ≤ g) :
    PushPost R base v l' w (.returned (.tuple #[])) (w1.setCell ⟨R, 0, none⟩ (.slice (some ⟨g, 0, none⟩) m cap)) := by
  have hne := h.ne
  obtain ⟨hR, hrow0, hb⟩ := h
  have hlt := heap_lt hR
  have hR1 := hg.heap ((heap_alloc_lt w o _ hlt).trans hR) hne
  have hsz := hg.1
  rw [size_alloc] at hsz hloc
  have hgR : g ≠ R := fun e => by
    rcases hloc with h | h
    · exact hne (by rw [h, e])
    · omega
  refine ⟨rfl, _, ⟨heap_set _ _ _ _ _ _ _ hR1, hrow.same fun b hb' => heap_set_ne _ _ _ _ ?_, by rw [size_set]; omega⟩, ⟨by rw [size_set]; omega, hg.2.1, hg.2.2.1, hg.2.2.2.1, fun b hb' h1 h2 => ?_, ?_⟩⟩
  · have : b = g := by simpa [Value.ownBlock] using hb'.symm
    rw [this]; exact hgR
  · exact (heap_set_ne _ _ _ _ h1).trans ((hg.2.2.2.2 b (by rw [size_alloc]; omega) h2).trans (heap_alloc_lt w _ _ hb'))
  · rcases hloc with h | h
    · exact .inl h.symm
    · refine .inr fun k hk => ?_
      have : k = g := by simpa [Value.ownBlock] using hk.symm
      omega
theorem push_c {base R : Nat} {v : Value} {l : List ByteArray} {s : ByteArray} {w : World} (h : HAt R base v l w) (hm : l.length ≤ 1000000) :
    Calls Tryd.prog 94 #[.pointer (some ⟨R, 0, none⟩), .iface 9 (.string s)] w (PushPost R base v (l ++ [s]) w) := by
  have hne := Lib.hid h.ne
  obtain ⟨hR, hrow0, hb⟩ := h
  have cR : w.cell? ⟨R, 0, none⟩ = some v := cell_of hR 0
  have fR := fr_of hR 0
  have hta : ∀ (w : World) (s : ByteArray), (Instr.typeAssert (.iface 9 (.string s)) 20 9 false).run Tryd.prog w = .ok (.string s) w := fun _ _ => by kernel_rfl
  have cA : (w.alloc (.cells #[.string s] 9)).cell? ⟨R, 0, none⟩ = some v := cell_of ((heap_alloc_lt w _ _ (heap_lt hR)).trans hR) 0
  have hR' := Lib.hid hR
  clear hR
  go_enter Tryd.func94, Tryd.ntmps94
  go_wp2
  go_region_law (refine str_step (base := base) rfl _ _ 53 rfl Tryd.underlying53 rfl _ _ _ rfl (heap_alloc_at w _) (hrow0.same fun b hb => heap_alloc_lt w _ _ (hrow0.lt b hb).2) rfl hm (by show base ≤ (w.alloc _).heap.size; rw [size_alloc]; omega) ?_; intro g cap w1 hrow hgrow hloc; have hR1 := hgrow.heap (show ((w.alloc (.cells #[.string s] 9)).drew).heap[R]? = some (.cells #[v] 53 (0, 0)) from (heap_alloc_lt w _ _ (heap_lt hR'.out)).trans hR'.out) hne.out; have c1 : w1.cell? ⟨R, 0, none⟩ = some v := cell_of hR1 0; have f1 := fr_of hR1 0; replace hR1 := Lib.hid hR1; replace hloc := Lib.hid hloc)
  all_goals
    go_end0
    exact push_end ⟨hR'.out, hrow0, hb⟩ hrow hgrow hloc.out
theorem pop_c {base R n g cap : Nat} {l : List ByteArray} {s : ByteArray} {w : World} (h : SRow base w (.slice (some ⟨g, 0, none⟩) n cap) l) (hn : l.length = n) (hR : w.heap[R]? = some (.cells #[.slice (some ⟨g, 0, none⟩) n cap] 53 (0, 0))) (h0 : 0 < n) (hm : n ≤ 1000000) (hs : l.getD (n - 1) ByteArray.empty = s) :
    Calls Tryd.prog 93 #[.pointer (some ⟨R, 0, none⟩)] w fun e w' => e = .returned (.iface 9 (.string s)) ∧ w' = w.setCell ⟨R, 0, none⟩ (.slice (some ⟨g, 0, none⟩) (n - 1 : Nat) cap) := by
  have cR := cell_of hR 0
  have fR := fr_of hR 0
  have cl := h.at (n - 1) (by omega)
  rw [hs] at cl
  have hcap : n ≤ cap ∧ cap ≤ maxLen := by
    rcases h.form with ⟨h1, _⟩ | ⟨g', cap', cur, e1, e2, e3, e4, e5, e6, e7⟩
    · cases h1
    · cases e1; exact ⟨by omega, e5⟩
  obtain ⟨m, rfl⟩ : ∃ m, n = m + 1 := ⟨n - 1, by omega⟩
  have e1 : ((m + 1 : Nat) : Int) - 1 = (m : Int) := by omega
  rw [Nat.add_sub_cancel] at cl ⊢
  unfold maxLen at hcap
  obtain ⟨hc1, hc2⟩ := hcap
  replace hn := Lib.hid hn
  replace hs := Lib.hid hs
  replace h := Lib.hid h
  clear h0
  go_enter Tryd.func93, Tryd.ntmps93
  go_wp2
  go_ret
  exact ⟨rfl, rfl⟩
/-- The last one is taken. -/
def PopPost (R base : Nat) (v : Value) (s : ByteArray) (l : List ByteArray) (w : World) (e : Ending) (w' : World) : Prop := e = .returned (.iface 9 (.string s)) ∧ ∃ v', HAt R base v' l w' ∧ Hgr R v v' w w'
theorem pop_h {base R : Nat} {v : Value} {l : List ByteArray} {s : ByteArray} {w : World} (h : HAt R base v l w) (h0 : 0 < l.length) (hm : l.length ≤ 1000000) (hs : l.getD (l.length - 1) ByteArray.empty = s) :
    Calls Tryd.prog 93 #[.pointer (some ⟨R, 0, none⟩)] w (PopPost R base v s (l.take (l.length - 1)) w) := by
  have hne := h.ne
  obtain ⟨hR, hrow, hb⟩ := h
  rcases hrow.form with ⟨_, e⟩ | ⟨g, cap, cur, rfl, _⟩
  · rw [e] at h0; exact absurd h0 (by simp)
  · refine (pop_c hrow rfl hR h0 hm hs).mono ?_
    rintro e w' ⟨rfl, rfl⟩
    have hgR : g ≠ R := fun e => hne (by rw [e]; rfl)
    refine ⟨rfl, _, ⟨heap_set _ _ _ _ _ _ _ hR, (hrow.cut (Nat.sub_le _ _)).same fun b hb' => heap_set_ne _ _ _ _ ?_, by rw [size_set]; exact hb⟩, ⟨by rw [size_set]; exact Nat.le_refl _, rfl, rfl, rfl, fun b hb' h1 h2 => heap_set_ne _ _ _ _ h1, .inl rfl⟩⟩
    have : b = g := by simpa [Value.ownBlock] using hb'.symm
    rw [this]; exact hgR
end Go.Proofs.YtalkhiggapbfjaaDoor.Hp
