/- Rows of texts, each once: sorted, and of no text twice. -/
import Derived.Test.YtalkhiggapbfjaaDoorStS
set_option linter.unusedVariables false
set_option linter.unusedSimpArgs false
namespace Go.Proofs.YtalkhiggapbfjaaDoor.St
open Go Go.RowKit Go.Sort Go.Proofs.YtalkhiggapbfjaaDoor.B
theorem compact_mem {zs : List (List UInt8)} {x : List UInt8} (h : x ∈ Lib.compact zs) : x ∈ zs := by
  unfold Lib.compact Lib.compactUpTo at h
  obtain ⟨i, hi, rfl⟩ := List.mem_map.1 h
  have hl := List.mem_range.1 (List.mem_filter.1 hi).1
  rw [getElem!_pos zs.toArray i (by simpa using hl)]
  simp
theorem ofL_toL_mem {l : List ByteArray} {x : ByteArray} : x.data.toList ∈ toL l ↔ x ∈ l := by
  unfold toL
  rw [List.mem_map]
  constructor
  · rintro ⟨y, hy, e⟩
    have : y = x := ByteArray.ext (Array.ext' e)
    rw [← this]; exact hy
  · intro h
    exact ⟨x, h, rfl⟩
theorem mem_ofL {ss : List (List UInt8)} {x : ByteArray} : x ∈ ofL ss ↔ x.data.toList ∈ ss := by
  unfold ofL
  rw [List.mem_map]
  constructor
  · rintro ⟨y, hy, rfl⟩
    simpa using hy
  · intro h
    exact ⟨_, h, ByteArray.ext (by simp)⟩
theorem sortL_mem {ss : List (List UInt8)} {x : List UInt8} : x ∈ sortL ss ↔ x ∈ ss := by
  unfold sortL
  exact List.mem_mergeSort
abbrev SS (l : List (List UInt8)) : Prop := l.Pairwise (· < ·)
/-- Two rows in strict order that have the same members are one. -/
theorem ss_eq : ∀ {l m : List (List UInt8)}, SS l → SS m → (∀ x, x ∈ l ↔ x ∈ m) → l = m
  | [], [], _, _, _ => rfl
  | [], b :: m, _, _, h => absurd ((h b).2 (by simp)) (by simp)
  | a :: l, [], _, _, h => absurd ((h a).1 (by simp)) (by simp)
  | a :: l, b :: m, hl, hm, h => by
    rw [SS, List.pairwise_cons] at hl hm
    have hab : a = b := by
      rcases List.mem_cons.1 ((h a).1 (by simp)) with e | e
      · exact e
      · rcases List.mem_cons.1 ((h b).2 (by simp)) with e' | e'
        · exact e'.symm
        · exact absurd (List.lt_trans (hl.1 b e') (hm.1 a e)) (List.lt_irrefl _)
    subst hab
    rw [ss_eq hl.2 hm.2 (fun x => ?_)]
    constructor
    · intro hx
      rcases List.mem_cons.1 ((h x).1 (by simp [hx])) with e | e
      · subst e
        exact absurd (hl.1 x hx) (List.lt_irrefl _)
      · exact e
    · intro hx
      rcases List.mem_cons.1 ((h x).2 (by simp [hx])) with e | e
      · subst e
        exact absurd (hm.1 x hx) (List.lt_irrefl _)
      · exact e
/-! What compact leaves of a row in order. -/
theorem lt_of_le_ne {x y : List UInt8} (h : x ≤ y) (hne : x ≠ y) : x < y := by
  rcases Decidable.em (x < y) with h1 | h1
  · exact h1
  · exact absurd (List.le_antisymm h (List.not_lt.1 h1)) hne
theorem compactTo {d : Array (List UInt8)} (hd : d.toList.Pairwise (· ≤ ·)) : ∀ m, m ≤ d.size → SS (Lib.compactUpTo d m) ∧ ∀ x, x ∈ Lib.compactUpTo d m ↔ ∃ j, j < m ∧ d[j]! = x := by
  have hle : ∀ i j, i < j → j < d.size → d[i]! ≤ d[j]! := fun i j hij hj => by
    have := List.pairwise_iff_getElem.1 hd i j (by simp; omega) (by simp; omega) hij
    rw [getElem!_pos d i (by omega), getElem!_pos d j hj]
    simpa using this
  intro m
  induction m with
  | zero =>
    intro _
    refine ⟨by simp [Lib.compactUpTo, SS], fun x => ?_⟩
    simp [Lib.compactUpTo]
  | succ m ih =>
    intro hm
    obtain ⟨h1, h2⟩ := ih (by omega)
    rw [Lib.compactUpTo_succ]
    by_cases hk : Lib.keeps d m = true
    · rw [if_pos hk]
      have hk' : m = 0 ∨ d[m]! ≠ d[m - 1]! := by simpa [Lib.keeps] using hk
      constructor
      · rw [SS, List.pairwise_append]
        refine ⟨h1, by simp, fun x hx y hy => ?_⟩
        rw [List.mem_singleton] at hy
        subst hy
        obtain ⟨j, hj, rfl⟩ := (h2 x).1 hx
        have hm0 : m ≠ 0 := by omega
        have hne := hk'.resolve_left hm0
        have hlt := lt_of_le_ne (hle (m - 1) m (by omega) (by omega)) (fun e => hne e.symm)
        by_cases e : j = m - 1
        · subst e; exact hlt
        · have h3 := hle j (m - 1) (by omega) (by omega)
          exact lt_of_le_ne (hle j m (by omega) (by omega)) (fun e2 => by
            rw [e2] at h3
            exact absurd hlt (List.not_lt.2 h3))
      · intro x
        rw [List.mem_append, h2, List.mem_singleton]
        constructor
        · rintro (⟨j, hj, rfl⟩ | rfl)
          · exact ⟨j, by omega, rfl⟩
          · exact ⟨m, by omega, rfl⟩
        · rintro ⟨j, hj, rfl⟩
          by_cases e : j = m
          · subst e; exact .inr rfl
          · exact .inl ⟨j, by omega, rfl⟩
    · rw [if_neg hk, List.append_nil]
      have hk' : m ≠ 0 ∧ d[m]! = d[m - 1]! := by
        have : ¬ (m = 0 ∨ d[m]! ≠ d[m - 1]!) := by simpa [Lib.keeps] using hk
        constructor
        · exact fun e => this (.inl e)
        · exact Classical.byContradiction fun e => this (.inr e)
      refine ⟨h1, fun x => ?_⟩
      rw [h2]
      constructor
      · rintro ⟨j, hj, rfl⟩
        exact ⟨j, by omega, rfl⟩
      · rintro ⟨j, hj, rfl⟩
        by_cases e : j = m
        · subst e
          exact ⟨j - 1, by omega, hk'.2.symm⟩
        · exact ⟨j, by omega, rfl⟩
theorem sortL_le (ss : List (List UInt8)) : (sortL ss).Pairwise (· ≤ ·) := by
  unfold sortL
  have := List.pairwise_mergeSort (le := fun x y : List UInt8 => decide (x ≤ y)) (fun a b c h1 h2 => by simp only [decide_eq_true_eq] at *; exact List.le_trans h1 h2) (fun a b => by simp only [Bool.or_eq_true, decide_eq_true_eq]; exact List.le_total a b) ss
  exact this.imp (fun h => by simpa using h)
theorem compact_ss (ss : List (List UInt8)) : SS (Lib.compact (sortL ss)) ∧ ∀ x, x ∈ Lib.compact (sortL ss) ↔ x ∈ ss := by
  obtain ⟨h1, h2⟩ := compactTo (d := (sortL ss).toArray) (by simpa using sortL_le ss) (sortL ss).length (by simp)
  refine ⟨h1, fun x => ?_⟩
  unfold Lib.compact
  rw [h2, ← sortL_mem (ss := ss), List.mem_iff_getElem]
  constructor
  · rintro ⟨j, hj, e⟩
    exact ⟨j, hj, by rw [getElem!_pos _ j (by simpa using hj)] at e; simpa using e⟩
  · rintro ⟨j, hj, e⟩
    exact ⟨j, hj, by rw [getElem!_pos _ j (by simpa using hj)]; simpa using e⟩
/-! The document's Add keeps a row in order. -/
/-- What a list needs, each once. -/
def once (l : List ByteArray) : List ByteArray := ofL (Lib.compact (sortL (toL l)))
theorem toL_ofL (ss : List (List UInt8)) : toL (ofL ss) = ss := by
  unfold toL ofL
  rw [List.map_map]
  conv => rhs; rw [← List.map_id ss]
  rfl
theorem once_mem {l : List ByteArray} {x : ByteArray} : x ∈ once l ↔ x ∈ l := by
  unfold once
  rw [mem_ofL, (compact_ss _).2, ← ofL_toL_mem]
theorem once_nodup (l : List ByteArray) : (once l).Nodup := by
  have h := (compact_ss (toL l)).1
  have h2 : (toL (once l)).Nodup := by
    unfold once
    rw [toL_ofL]
    exact h.imp fun hlt e => by rw [e] at hlt; exact absurd hlt (List.lt_irrefl _)
  unfold toL at h2
  exact (List.pairwise_map.1 h2).imp fun hne e => hne (by rw [e])
theorem once_le (l : List ByteArray) : (once l).length ≤ l.length := by
  unfold once
  rw [ofL_len]
  refine Nat.le_trans (compact_len _) ?_
  unfold sortL
  rw [List.length_mergeSort, toL_len]
  exact Nat.le_refl _
end Go.Proofs.YtalkhiggapbfjaaDoor.St
