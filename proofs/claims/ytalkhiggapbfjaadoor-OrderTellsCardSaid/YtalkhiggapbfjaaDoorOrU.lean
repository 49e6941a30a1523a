/- Sets that a call builds out of another's patches. -/
import Derived.Test.YtalkhiggapbfjaaDoorOrE
set_option linter.unusedVariables false
set_option linter.unusedSimpArgs false
namespace Go.Proofs.YtalkhiggapbfjaaDoor.Orp
open Go Go.RowKit Go.Proofs.YtalkhiggapbfjaaDoor.B Go.Proofs.YtalkhiggapbfjaaDoor.St Go.Proofs.YtalkhiggapbfjaaDoor.Mp
open Go.Proofs.YtalkhiggapbfjaaDoor.Hp (ltB le tob ltB_iff)
theorem infoN : ∃ i, Tryd.prog.info? 30 = some i ∧ i.zero = some (.agg #[.string ⟨#[]⟩, .string ⟨#[]⟩, .slice none 0 0, .slice none 0 0]) ∧ i.size = 4 ∧ i.bytes = 80 := by
  have h : (Tryd.prog.info? 30).map (fun i => (i.zero, i.size, i.bytes)) = some (some (.agg #[.string ⟨#[]⟩, .string ⟨#[]⟩, .slice none 0 0, .slice none 0 0]), 4, 80) := by kernel_rfl
  match hi : Tryd.prog.info? 30, h with
  | some i, h =>
    simp only [Option.map_some, Option.some.injEq, Prod.mk.injEq] at h
    exact ⟨i, rfl, h.1, h.2.1, h.2.2⟩
/-- A set that a call builds out of another's patches. -/
def NRow (base : Nat) (W : World) (v : Value) (xs : List Nx) : Prop := W.ownsRow base 30 4 v xs.length (xs.flatMap fun x => x.cells.toList)
theorem NRow.nil (base : Nat) (W : World) : NRow base W (.slice none 0 0) [] := ⟨rfl, .inl ⟨rfl, rfl⟩⟩
theorem NRow.lt {base : Nat} {W : World} {v : Value} {xs : List Nx} (h : NRow base W v xs) (k : Nat) (hk : v.ownBlock = some k) : base ≤ k ∧ k < W.heap.size := by
  have := World.ownsRow.lt h k hk
  exact ⟨this.1, this.2⟩
theorem NRow.shape {base : Nat} {W : World} {v : Value} {xs : List Nx} (h : NRow base W v xs) : ∃ A cap, v = .slice A xs.length cap := by
  rcases h.2 with ⟨rfl, h0⟩ | ⟨g, cap, cur, rfl, _⟩
  · exact ⟨none, 0, by rw [h0]⟩
  · exact ⟨_, cap, rfl⟩
theorem NRow.same {base : Nat} {W W' : World} {v : Value} {xs : List Nx} (h : NRow base W v xs) (hk : ∀ b, v.ownBlock = some b → W'.heap[b]? = W.heap[b]?) : NRow base W' v xs := by
  obtain ⟨k1, k2⟩ := h
  refine ⟨k1, ?_⟩
  rcases k2 with k2 | ⟨g, cap, cur, rfl, e2, e3, e4⟩
  · exact .inl k2
  · exact .inr ⟨g, cap, cur, rfl, e2, (hk g rfl).trans e3, e4⟩
theorem flat_at : ∀ (xs : List Nx) (j : Nat) (hj : j < xs.length) (i : Nat), i < 4 → (xs.flatMap fun x => x.cells.toList)[j * 4 + i]? = (xs[j].cells)[i]?
  | x :: xs, 0, _, i, hi => by
    rw [List.flatMap_cons, Nat.zero_mul, Nat.zero_add, List.getElem?_append_left (by show i < 4; exact hi), Array.getElem?_toList]
    rfl
  | x :: xs, j + 1, hj, i, hi => by
    rw [List.flatMap_cons, List.getElem?_append_right (by show 4 ≤ _; omega), show (j + 1) * 4 + i - x.cells.toList.length = j * 4 + i by show (j + 1) * 4 + i - 4 = _; omega, flat_at xs j (by simpa using hj) i hi]
    rfl
theorem NRow.set {base : Nat} {W : World} {v : Value} {xs : List Nx} (h : NRow base W v xs) (hl : xs.length ≤ 140737488351232) (hs : ∀ z ∈ xs, z.nm.size ≤ 140737488351232 ∧ TAt W z.D z.dc z.deps) : ∃ A c, v = .slice A xs.length c ∧ SetAt W A c xs := by
  rcases h.2 with ⟨rfl, h0⟩ | ⟨g, cap, cur, rfl, e2, e3, e4, e5, e6, e7⟩
  · exact ⟨none, 0, by rw [h0], by omega, hl, fun h => by omega, hs⟩
  · refine ⟨_, cap, rfl, e4, hl, fun _ => ⟨g, 0, rfl, fun j hj i hi => ?_⟩, hs⟩
    rw [Nat.zero_add, cell_of e3, ← flat_at xs j hj i hi, ← e7, List.getElem?_take, if_pos (by omega), Array.getElem?_toList]
theorem nx_app {ops : Array Oper} {rest : List Oper} {o : Oper} {a : Act} {Q : Exit → Act → World → Prop} {base : Nat} {w : World} {v : Value} {xs : List Nx} {x : Nx} (hgd : o.guard = none) (s y : Operand) (t : TypeId)
    (ho : o.op = .call { callee := .builtin .append, args := #[s, y], argTypes := #[t, t] }) (ht : Tryd.prog.underlying t = some (.slice 30))
    (hs : a.eval s = v) (n c H : Nat) (hH : w.heap.size = H) (hx : a.eval y = .slice (some ⟨H, 0, none⟩) 1 c) (hrow : NRow base w v xs) (hn : xs.length = n) (hb : n ≤ 1000000) (hbase : base ≤ w.heap.size)
    (h : ∀ v' w', NRow base w' v' (xs ++ [x]) → Grew v w w' → (v'.ownBlock = v.ownBlock ∨ ∀ k, v'.ownBlock = some k → w.heap.size < k) → wpList Tryd.prog ops Q rest (a.put o.dst v') w') :
    wpList Tryd.prog ops Q (o :: rest) a (w.alloc (.cells #[.string x.nm, .string x.note, .slice x.D x.deps.length x.dc, .slice x.O x.on x.oc] 30)) := by
  subst hn
  subst hH
  obtain ⟨iF, hiF, hzF, hsF, hbF⟩ := infoN
  have hown := hrow
  unfold NRow at hown
  refine wpList_append_lies _ hgd s y t ho base 30 iF _ 4 80 ht hiF hzF hsF hbF rfl (by omega) v xs.length _ hs (hown.alloc _) ⟨w.heap.size, 0, none⟩ 1 c x.cells.toList hx rfl (World.news_of_block (heap_alloc_at w _)) (fun u hu => by
    unfold Nx.cells at hu
    simp only [List.mem_cons, List.not_mem_nil, or_false] at hu
    rcases hu with rfl | rfl | rfl | rfl <;> rfl) (by omega) (by unfold maxLen; omega) (by omega) (by simp; omega) (w.heap.size + 1) (by simp) ?_
  intro g cap w' hown' hgrow hat hlt
  have hsz := hgrow.size
  rw [St.size_alloc] at hsz
  refine h _ w' ?_ ⟨by omega, hgrow.os, hgrow.tape, hgrow.output, fun k h1 h2 => (hgrow.block k (by rw [St.size_alloc]; omega) h2).trans (heap_alloc_lt w _ _ h1)⟩ ?_
  · unfold NRow
    rw [List.flatMap_append, List.length_append]
    simpa using hown'
  · rcases hat with e | e
    · exact .inl e.symm
    · exact .inr fun k hk => by have : g = k := Option.some.inj hk; omega
theorem RAt.keep {w w' : World} {A : Option Addr} {l : List ByteArray} (h : RAt w A l) (hb : Below w.heap.size w w') : RAt w' A l := fun h0 => by
  obtain ⟨b, o, e, hc⟩ := h h0
  exact ⟨b, o, e, fun j hj => (hb.cell (World.block_lt_of_cell? w _ (hc j hj))).trans (hc j hj)⟩
theorem srow_below {base : Nat} {w w' : World} {v : Value} {l : List ByteArray} (h : SRow base w v l) (hb : Below w.heap.size w w') : SRow base w' v l := h.same fun b hk => hb.block b (h.lt b hk).2
theorem ss_nodup {l : List ByteArray} (h : SS (toL l)) : l.Nodup := by
  unfold toL at h
  exact (List.pairwise_map.1 h).imp fun {a b} hab e => by subst e; exact List.lt_irrefl _ hab
end Go.Proofs.YtalkhiggapbfjaaDoor.Orp
