/- What order.Linear's maps hold. -/
import Derived.Test.YtalkhiggapbfjaaDoorOrM
import Derived.Test.YtalkhiggapbfjaaDoorStO
import Derived.Test.YtalkhiggapbfjaaDoorShelf
set_option linter.unusedVariables false
set_option linter.unusedSimpArgs false
namespace Go.Proofs.YtalkhiggapbfjaaDoor.Orp
open Go Go.RowKit Go.Proofs.YtalkhiggapbfjaaDoor.B Go.Proofs.YtalkhiggapbfjaaDoor.St Go.Proofs.YtalkhiggapbfjaaDoor.Mp
/-- What a name needs. -/
def depsOf (zs : List Nx) (s : ByteArray) : List ByteArray := ((zs.find? fun x => decide (x.nm = s)).map Nx.deps).getD []
theorem depsOf_nm {zs : List Nx} (hn : (names zs).Nodup) {x : Nx} (hx : x ∈ zs) : depsOf zs x.nm = x.deps := by
  unfold depsOf
  induction zs with
  | nil => cases hx
  | cons a zs ih =>
    obtain ⟨h1, h2⟩ := List.nodup_cons.1 (show (a.nm :: names zs).Nodup from hn)
    rw [List.find?_cons]
    by_cases e : a.nm = x.nm
    · rcases List.mem_cons.1 hx with rfl | hx'
      · simp
      · exact absurd (List.mem_map.2 ⟨x, hx', e.symm⟩) h1
    · rcases List.mem_cons.1 hx with rfl | hx'
      · exact absurd rfl e
      · simp only [e, decide_false]
        exact ih h2 hx'
open Classical in
/-- Each name's count. -/
noncomputable def WF (ns : List ByteArray) (c : ByteArray → Nat) : ByteArray → Option Value := fun s => if s ∈ ns then some (.int .i64 (c s : Nat)) else none
theorem WF_in {ns : List ByteArray} {c : ByteArray → Nat} {s : ByteArray} (h : s ∈ ns) : WF ns c s = some (.int .i64 (c s : Nat)) := by unfold WF; rw [if_pos h]
theorem WF_out {ns : List ByteArray} {c : ByteArray → Nat} {s : ByteArray} (h : s ∉ ns) : WF ns c s = none := by unfold WF; rw [if_neg h]
theorem WF_upd {ns : List ByteArray} {c : ByteArray → Nat} {s : ByteArray} (h : s ∈ ns) (m : Nat) : upd (WF ns c) s (.int .i64 (m : Nat)) = WF ns (fun y => if y = s then m else c y) := by
  funext y
  unfold upd WF
  by_cases e : y = s
  · subst e
    rw [if_pos rfl, if_pos h]
    show _ = some (Value.int .i64 ((if y = y then m else c y : Nat)))
    rw [if_pos rfl]
  · have e2 : (fun y => if y = s then m else c y) y = c y := if_neg e
    rw [if_neg e]
    by_cases hy : y ∈ ns
    · rw [if_pos hy, if_pos hy, e2]
    · rw [if_neg hy, if_neg hy]
theorem WF_congr {ns : List ByteArray} {c c' : ByteArray → Nat} (h : ∀ s ∈ ns, c s = c' s) : WF ns c = WF ns c' := by
  funext y
  unfold WF
  by_cases e : y ∈ ns
  · rw [if_pos e, if_pos e, h y e]
  · rw [if_neg e, if_neg e]
theorem M1_WF (ns : List ByteArray) : M1 ns = WF ns (fun _ => 0) := by funext y; unfold M1 WF; rfl
def CloneP (l : List ByteArray) (w : World) (e : Ending) (w' : World) : Prop := ∃ v, e = .returned v ∧ SRow w.heap.size w' v l ∧ Below w.heap.size w w'
theorem clone_c {w : World} {D : Option Addr} {c : Nat} {l : List ByteArray} (h : TAt w D c l) (hl : l.length ≤ 1000000) : Calls Tryd.prog 18 #[.slice D l.length c] w (CloneP l w) := by
  obtain ⟨h1, h2, h3, h4⟩ := h
  by_cases h0 : 0 < l.length
  · obtain ⟨b, o, rfl, hc⟩ := h4 h0
    refine (Tryd.slices_Clone_string b o l.length c l w (Nat.le_refl _) (by omega) hc).mono ?_
    rintro e w' ⟨v, rfl, hr, _, hb⟩
    rw [List.take_of_length_le (Nat.le_refl _)] at hr
    exact ⟨v, rfl, hr, hb⟩
  · have hn : l = [] := List.eq_nil_of_length_eq_zero (by omega)
    subst hn
    cases D with
    | none =>
      refine (Tryd.slices_Clone_string_nil 0 c w).mono ?_
      rintro e w' ⟨rfl, rfl⟩
      exact ⟨_, rfl, SRow.nil _ _, Below.refl _ _⟩
    | some a =>
      refine (Tryd.slices_Clone_string_zero a c w).mono ?_
      rintro e w' ⟨v, rfl, hr, _, hb⟩
      exact ⟨v, rfl, hr, hb⟩
/-! ### those that need a name -/
/-- Map U has for each name a row of those that need it; no two lie in one block; none lies in a block of Sh. -/
def Users (base : Nat) (Sh : Nat → Prop) (w : World) (U n : Nat) (rows : ByteArray → List ByteArray) : Prop :=
  ∃ f, GMap slit w Tryd.prog 9 U n f ∧ (∀ d, SRow base w ((f d).getD (.slice none 0 0)) (rows d)) ∧ (∀ d d', d ≠ d' → ∀ k, ((f d).getD (.slice none 0 0)).ownBlock = some k → ((f d').getD (.slice none 0 0)).ownBlock ≠ some k) ∧ ∀ d k, ((f d).getD (.slice none 0 0)).ownBlock = some k → ¬ Sh k
theorem Users.made (base : Nat) (Sh : Nat → Prop) (w : World) : Users base Sh (w.alloc (.map #[] 0)) w.heap.size 0 (fun _ => []) :=
  ⟨fun _ => none, GMap.made slit w _ _, fun d => SRow.nil _ _, fun _ _ _ k hk => (by cases hk), fun _ k hk => (by cases hk)⟩
/-- Other blocks may turn. -/
theorem Users.keep {base U n : Nat} {Sh Sh' : Nat → Prop} {w w' : World} {rows : ByteArray → List ByteArray} (h : Users base Sh w U n rows) (hU : w'.heap[U]? = w.heap[U]?) (hk : ∀ k cur, base ≤ k → w.heap[k]? = some (.cells cur 9 (0, 0)) → ¬ Sh k → w'.heap[k]? = w.heap[k]?) (hs : ∀ k, Sh' k → Sh k ∨ w.heap.size ≤ k) : Users base Sh' w' U n rows := by
  obtain ⟨f, h1, h2, h3, h4⟩ := h
  refine ⟨f, h1.same hU, fun d => (h2 d).same fun k hk' => ?_, h3, fun d k hk' hsh => ?_⟩
  · obtain ⟨cur, hc⟩ := (h2 d).cells k hk'
    exact hk k cur ((h2 d).lt k hk').1 hc (h4 d k hk')
  · rcases hs k hsh with h | h
    · exact h4 d k hk' h
    · have := ((h2 d).lt k hk').2; omega
theorem Users.row {base U n : Nat} {Sh : Nat → Prop} {w : World} {rows : ByteArray → List ByteArray} (h : Users base Sh w U n rows) : ∃ f, GMap slit w Tryd.prog 9 U n f ∧ ∀ d, SRow base w ((f d).getD (.slice none 0 0)) (rows d) := by
  obtain ⟨f, h1, h2, _⟩ := h
  exact ⟨f, h1, h2⟩
theorem turned_at {w w' : World} {b k : Nat} (h : w.mapTurned w' b) (hk : k ≠ b) (hlt : k < w.heap.size) : w'.heap[k]? = w.heap[k]? := h.grown.block k hlt (fun e => hk (Option.some.inj e))
theorem turned_size {w w' : World} {b : Nat} (h : w.mapTurned w' b) : w.heap.size ≤ w'.heap.size := h.grown.size
theorem map_ne {w : World} {k b : Nat} {cur : Array Value} {t : TypeId} {fr : Nat × Nat} (hk : w.heap[k]? = some (.cells cur t fr)) (hb : ∃ es clock, w.heap[b]? = some (.map es clock)) : k ≠ b := by
  rintro rfl
  obtain ⟨es, clock, hb⟩ := hb
  rw [hk] at hb
  cases hb
theorem below_turn {B0 b : Nat} {w wr w1 : World} (hB : Below B0 w wr) (hb : B0 ≤ b) (hs : B0 ≤ wr.heap.size) (h : wr.mapTurned w1 b) : Below B0 w w1 :=
  ⟨h.grown.os.trans hB.os, h.grown.tape.trans hB.tape, h.grown.output.trans hB.output, Nat.le_trans hB.size h.grown.size, fun k hk => (turned_at h (by omega) (by omega)).trans (hB.block k hk)⟩
theorem below_grew {B0 : Nat} {v : Value} {w wr w1 : World} (hB : Below B0 w wr) (hs : B0 ≤ wr.heap.size) (h : Grew v wr w1) (hv : ∀ k, v.ownBlock = some k → B0 ≤ k) : Below B0 w w1 :=
  ⟨h.2.1.trans hB.os, h.2.2.1.trans hB.tape, h.2.2.2.1.trans hB.output, Nat.le_trans hB.size h.1, fun k hk => (h.2.2.2.2 k (by omega) (fun e => by have := hv k e.symm; omega)).trans (hB.block k hk)⟩
/-- One more needs d. -/
theorem users_next {base U m g n cap : Nat} {Sh : Nat → Prop} {w w1 w2 : World} {rows : ByteArray → List ByteArray} {f : ByteArray → Option Value} {d x : ByteArray} (hf : GMap slit w Tryd.prog 9 U m f)
    (h2 : ∀ d, SRow base w ((f d).getD (.slice none 0 0)) (rows d)) (h3 : ∀ d d', d ≠ d' → ∀ k, ((f d).getD (.slice none 0 0)).ownBlock = some k → ((f d').getD (.slice none 0 0)).ownBlock ≠ some k) (h4 : ∀ d k, ((f d).getD (.slice none 0 0)).ownBlock = some k → ¬ Sh k)
    (hr : SRow base w1 (.slice (some ⟨g, 0, none⟩) n cap) (rows d ++ [x])) (hg : Grew ((f d).getD (.slice none 0 0)) w w1) (hl : ((f d).getD (.slice none 0 0)).ownBlock = some g ∨ w.heap.size < g) (hS : ∀ k, Sh k → k < w.heap.size)
    (hu : GMap slit w2 Tryd.prog 9 U (m + 1) (upd f d (.slice (some ⟨g, 0, none⟩) n cap))) (ht : w1.mapTurned w2 U) : Users base Sh w2 U (m + 1) (fun y => if y = d then rows d ++ [x] else rows y) := by
  have hob := hf.obj
  have hgU : g ≠ U := by
    rintro rfl
    rcases hl with hl | hl
    · obtain ⟨cur, hc⟩ := (h2 d).cells g hl
      exact map_ne hc hob rfl
    · have := hf.lt; omega
  have hother : ∀ y, y ≠ d → ∀ k, ((f y).getD (.slice none 0 0)).ownBlock = some k → k ≠ g ∧ w2.heap[k]? = w.heap[k]? := by
    intro y hy k hk
    have hlt := ((h2 y).lt k hk).2
    have hkg : k ≠ g := by
      rintro rfl
      rcases hl with hl | hl
      · exact h3 y d hy k hk hl
      · omega
    obtain ⟨cur, hc⟩ := (h2 y).cells k hk
    exact ⟨hkg, (turned_at ht (map_ne hc hob) (Nat.lt_of_lt_of_le hlt hg.1)).trans (hg.2.2.2.2 k hlt (fun e => h3 y d hy k hk e.symm))⟩
  have hval : ∀ y, ((upd f d (.slice (some ⟨g, 0, none⟩) n cap)) y).getD (.slice none 0 0) = if y = d then .slice (some ⟨g, 0, none⟩) n cap else (f y).getD (.slice none 0 0) := by
    intro y
    unfold upd
    by_cases e : y = d
    · rw [if_pos e, if_pos e]; rfl
    · rw [if_neg e, if_neg e]
  refine ⟨_, hu, fun y => ?_, fun y y' hne k hk => ?_, fun y k hk => ?_⟩
  · rw [hval]
    by_cases e : y = d
    · simp only [if_pos e]
      refine hr.same fun k hk => turned_at ht ?_ ?_
      · have : k = g := by simpa [Value.ownBlock] using hk.symm
        rw [this]; exact hgU
      · exact (hr.lt k hk).2
    · simp only [if_neg e]
      exact (h2 y).same fun k hk => (hother y e k hk).2
  · rw [hval] at hk ⊢
    by_cases e : y = d
    · have hne' : y' ≠ d := fun e' => hne (e.trans e'.symm)
      rw [if_pos e] at hk
      rw [if_neg hne']
      have : k = g := by simpa [Value.ownBlock] using hk.symm
      subst this
      exact fun hk' => (hother y' hne' k hk').1 rfl
    · rw [if_neg e] at hk
      by_cases e' : y' = d
      · rw [if_pos e']
        intro hk'
        have : k = g := by simpa [Value.ownBlock] using hk'.symm
        exact (hother y e k hk).1 this
      · rw [if_neg e']
        exact h3 y y' hne k hk
  · rw [hval] at hk
    by_cases e : y = d
    · rw [if_pos e] at hk
      have : k = g := by simpa [Value.ownBlock] using hk.symm
      subst this
      rcases hl with hl | hl
      · exact h4 d k hl
      · intro hs; have := hS k hs; omega
    · rw [if_neg e] at hk
      exact h4 y k hk
/-- Between two of the needs of a patch: the count c, those that need each name, the patch's own copy at X, its needs' row v. -/
structure In3 (ns : List ByteArray) (w : World) (U X S1 : Nat) (v : Value) (l : List ByteArray) (x : Nx) (c : ByteArray → Nat) (rows : ByteArray → List ByteArray) (p1 p2 : Nat) (W : World) : Prop where
  wait : GMap slit W Tryd.prog 9 w.heap.size p1 (WF ns c)
  users : Users w.heap.size (fun b => v.ownBlock = some b) W U p2 rows
  below : Below w.heap.size w W
  own : W.heap[X]? = some (.cells x.cells 30 (0, 0))
  row : SRow S1 W v l
  uge : w.heap.size ≤ U
  xge : w.heap.size ≤ X
theorem In3.cell {ns : List ByteArray} {w : World} {U X S1 : Nat} {v : Value} {l : List ByteArray} {x : Nx} {c : ByteArray → Nat} {rows : ByteArray → List ByteArray} {p1 p2 : Nat} {W : World} (h : In3 ns w U X S1 v l x c rows p1 p2 W) : W.cell? ⟨X, 0, none⟩ = some (.string x.nm) := cell_of h.own 0
/-- One more needs d. -/
theorem In3.more {ns : List ByteArray} {w : World} {U X S1 : Nat} {v : Value} {l : List ByteArray} {x : Nx} {c : ByteArray → Nat} {rows : ByteArray → List ByteArray} {p1 p2 : Nat} {W : World} (h : In3 ns w U X S1 v l x c rows p1 p2 W) {f : ByteArray → Option Value} (hf : GMap slit W Tryd.prog 9 U p2 f)
    (h2 : ∀ d, SRow w.heap.size W ((f d).getD (.slice none 0 0)) (rows d)) (h3 : ∀ d d', d ≠ d' → ∀ k, ((f d).getD (.slice none 0 0)).ownBlock = some k → ((f d').getD (.slice none 0 0)).ownBlock ≠ some k) (h4 : ∀ d k, ((f d).getD (.slice none 0 0)).ownBlock = some k → ¬ v.ownBlock = some k)
    {d : ByteArray} {g n cap : Nat} {w1 w2 : World} (hr : SRow w.heap.size w1 (.slice (some ⟨g, 0, none⟩) n cap) (rows d ++ [x.nm])) (hg : Grew ((f d).getD (.slice none 0 0)) W w1) (hl : ((f d).getD (.slice none 0 0)).ownBlock = some g ∨ W.heap.size < g)
    (hu : GMap slit w2 Tryd.prog 9 U (p2 + 1) (upd f d (.slice (some ⟨g, 0, none⟩) n cap))) (ht : w1.mapTurned w2 U) (hUw : U ≠ w.heap.size) : In3 ns w U X S1 v l x c (fun y => if y = d then rows d ++ [x.nm] else rows y) p1 (p2 + 1) w2 := by
  have hob := hf.obj
  have hother : ∀ k o, W.heap[k]? = some o → (∀ cur, o ≠ .cells cur 9 (0, 0)) → k ≠ U → w2.heap[k]? = W.heap[k]? := by
    intro k o hk ho hkU
    have hlt := heap_lt hk
    refine (turned_at ht hkU (Nat.lt_of_lt_of_le hlt hg.1)).trans (hg.2.2.2.2 k hlt (fun e => ?_))
    obtain ⟨cur, hc⟩ := (h2 d).cells k e.symm
    rw [hk] at hc
    exact ho cur (Option.some.inj hc)
  obtain ⟨es, clock, hwo⟩ := h.wait.obj
  refine ⟨h.wait.same (hother _ _ hwo (fun _ e => by cases e) (fun e => hUw e.symm)), users_next hf h2 h3 h4 hr hg hl (fun k hk => (h.row.lt k hk).2) hu ht, ?_, (hother X _ h.own (fun _ e => by cases e) (map_ne h.own hob)).trans h.own, h.row.same fun k hk => ?_, h.uge, h.xge⟩
  · exact below_turn (below_grew h.below h.below.size hg (fun k hk => ((h2 d).lt k hk).1)) h.uge (Nat.le_trans h.below.size hg.1) ht
  · obtain ⟨cur, hc⟩ := h.row.cells k hk
    have hlt := heap_lt hc
    exact (turned_at ht (map_ne hc hob) (Nat.lt_of_lt_of_le hlt hg.1)).trans (hg.2.2.2.2 k hlt (fun e => h4 d k e.symm hk))
/-- A count is put. -/
theorem In3.count {ns : List ByteArray} {w : World} {U X S1 : Nat} {v : Value} {l : List ByteArray} {x : Nx} {c c' : ByteArray → Nat} {rows : ByteArray → List ByteArray} {p1 p2 : Nat} {W W' : World} (h : In3 ns w U X S1 v l x c rows p1 p2 W)
    (hm : GMap slit W' Tryd.prog 9 w.heap.size (p1 + 1) (WF ns c')) (ht : W.mapTurned W' w.heap.size) (hUw : U ≠ w.heap.size) : In3 ns w U X S1 v l x c' rows (p1 + 1) p2 W' := by
  have hob := h.wait.obj
  refine ⟨hm, h.users.keep ?_ (fun k cur _ hc _ => turned_at ht (map_ne hc hob) (heap_lt hc)) (fun k hk => .inl hk), below_turn h.below (Nat.le_refl _) h.below.size ht, (turned_at ht (map_ne h.own hob) (heap_lt h.own)).trans h.own, h.row.same fun k hk => ?_, h.uge, h.xge⟩
  · obtain ⟨f, hf, _⟩ := h.users
    exact turned_at ht hUw hf.lt
  · obtain ⟨cur, hc⟩ := h.row.cells k hk
    exact turned_at ht (map_ne hc hob) (heap_lt hc)
end Go.Proofs.YtalkhiggapbfjaaDoor.Orp
