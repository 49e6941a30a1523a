/- Heaps in plain Lean: what container/heap's up and down come to, over any strict total order. -/
set_option linter.unusedVariables false
set_option linter.unusedSimpArgs false
namespace Go.Proofs.YtalkhiggapbfjaaDoor.Hp
variable {α : Type}
/-- A strict total order. -/
structure TO (lt : α → α → Prop) : Prop where
  irr : ∀ x, ¬ lt x x
  tr : ∀ x y z, lt x y → lt y z → lt x z
  tot : ∀ x y, x ≠ y → lt x y ∨ lt y x
def le (lt : α → α → Prop) (x y : α) : Prop := ¬ lt y x
theorem TO.le_tr {lt : α → α → Prop} (T : TO lt) {x y z : α} (h : le lt x y) (k : le lt y z) : le lt x z := by
  intro hz
  by_cases e : x = y
  · exact k (e ▸ hz)
  · rcases T.tot x y e with a | a
    · exact k (T.tr _ _ _ hz a)
    · exact h a
theorem TO.lt_le {lt : α → α → Prop} (T : TO lt) {x y : α} (h : lt x y) : le lt x y := fun k => T.irr _ (T.tr _ _ _ h k)
theorem TO.le_refl {lt : α → α → Prop} (T : TO lt) (x : α) : le lt x x := T.irr x
/-- Two exchanged. -/
def sw (d : α) (xs : List α) (i j : Nat) : List α := (xs.set i (xs.getD j d)).set j (xs.getD i d)
theorem sw_len (d : α) (xs : List α) (i j : Nat) : (sw d xs i j).length = xs.length := by unfold sw; simp
theorem sw_get (d : α) (xs : List α) (i j k : Nat) (hi : i < xs.length) (hj : j < xs.length) : (sw d xs i j).getD k d = if k = j then xs.getD i d else if k = i then xs.getD j d else xs.getD k d := by
  unfold sw
  simp only [List.getD_eq_getElem?_getD, List.getElem?_set, List.length_set]
  by_cases h1 : k = j
  · subst h1; simp [hj]
  · by_cases h2 : k = i
    · subst h2
      have h1' : ¬ j = k := fun e => h1 e.symm
      simp [h1, h1', hi]
    · have h1' : ¬ j = k := fun e => h1 e.symm
      have h2' : ¬ i = k := fun e => h2 e.symm
      simp [h1, h2, h1', h2']
theorem sw_perm (d : α) (xs : List α) (i j : Nat) (hi : i < xs.length) (hj : j < xs.length) : (sw d xs i j).Perm xs := by
  have h := Array.swap_perm (xs := xs.toArray) (i := i) (j := j) (by simpa using hi) (by simpa using hj)
  have h2 := Array.perm_iff_toList_perm.1 h
  have e : (xs.toArray.swap i j (by simpa using hi) (by simpa using hj)).toList = sw d xs i j := by
    apply List.ext_getElem
    · simp [sw_len]
    · intro k h1 h2
      have hk : k < xs.length := by simpa using h1
      have hs := sw_get d xs i j k hi hj
      rw [List.getD_eq_getElem?_getD, List.getElem?_eq_getElem h2] at hs
      simp only [Option.getD_some] at hs
      rw [hs, Array.getElem_toList, Array.getElem_swap]
      simp only [List.getD_eq_getElem?_getD, List.getElem?_eq_getElem hi, List.getElem?_eq_getElem hj, List.getElem?_eq_getElem hk, Option.getD_some, List.getElem_toArray]
      by_cases a : k = i
      · subst a
        by_cases b : k = j
        · subst b; simp
        · simp [b]
      · by_cases b : k = j
        · subst b
          have a' : ¬ k = i := a
          simp [a']
        · simp [a, b]
  rw [e] at h2
  simpa using h2
def par (k : Nat) : Nat := (k - 1) / 2
/-- The first n are a heap, but at most where an element is too small for its place (j): up. -/
def UpInv (lt : α → α → Prop) (d : α) (xs : List α) (j : Nat) : Prop :=
  j < xs.length ∧ (∀ k, 0 < k → k < xs.length → k ≠ j → le lt (xs.getD (par k) d) (xs.getD k d)) ∧ (∀ k, 0 < k → k < xs.length → par k = j → 0 < j → le lt (xs.getD (par j) d) (xs.getD k d))
def IsHeap (lt : α → α → Prop) (d : α) (xs : List α) : Prop := ∀ k, 0 < k → k < xs.length → le lt (xs.getD (par k) d) (xs.getD k d)
theorem par_lt {k : Nat} (h : 0 < k) : par k < k := by unfold par; omega
theorem IsHeap.push {lt : α → α → Prop} {d : α} {xs : List α} (h : IsHeap lt d xs) (x : α) : UpInv lt d (xs ++ [x]) xs.length := by
  refine ⟨by simp, fun k h0 hk hne => ?_, fun k h0 hk hp hj => ?_⟩
  · have hk' : k < xs.length := by simp at hk; omega
    have hp := par_lt h0
    have := h k h0 hk'
    simp only [List.getD_eq_getElem?_getD] at this ⊢
    rw [List.getElem?_append_left (by omega), List.getElem?_append_left (by omega)]
    exact this
  · have hk' : k < xs.length + 1 := by simpa using hk
    have := par_lt h0
    omega
theorem UpInv.done {lt : α → α → Prop} {d : α} {xs : List α} {j : Nat} (h : UpInv lt d xs j) (hs : j = 0 ∨ ¬ lt (xs.getD j d) (xs.getD (par j) d)) : IsHeap lt d xs := by
  intro k h0 hk
  by_cases e : k = j
  · subst e
    rcases hs with h1 | h1
    · omega
    · exact h1
  · exact h.2.1 k h0 hk e
theorem UpInv.step {lt : α → α → Prop} (T : TO lt) {d : α} {xs : List α} {j : Nat} (h : UpInv lt d xs j) (h0 : 0 < j) (hs : lt (xs.getD j d) (xs.getD (par j) d)) : UpInv lt d (sw d xs (par j) j) (par j) := by
  have hp := par_lt h0
  have hj := h.1
  have hg := fun k => sw_get d xs (par j) j k (by omega) hj
  refine ⟨by rw [sw_len]; omega, fun k k0 hk hne => ?_, fun k k0 hk hpk hp0 => ?_⟩
  · rw [sw_len] at hk
    have hpk := par_lt k0
    rw [hg, hg]
    by_cases e1 : k = j
    · subst e1
      rw [if_neg (by omega), if_pos rfl, if_pos rfl]
      exact T.lt_le hs
    · rw [if_neg e1, if_neg hne]
      by_cases e2 : par k = j
      · rw [if_pos e2]
        exact h.2.2 k k0 hk e2 h0
      · rw [if_neg e2]
        by_cases e3 : par k = par j
        · rw [if_pos e3]
          have := h.2.1 k k0 hk e1
          rw [e3] at this
          exact T.le_tr (T.lt_le hs) this
        · rw [if_neg e3]
          exact h.2.1 k k0 hk e1
  · rw [sw_len] at hk
    have hpp := par_lt hp0
    have hpk' := par_lt k0
    rw [hg, hg, if_neg (by omega), if_neg (by omega)]
    have hpar := h.2.1 (par j) hp0 (by omega) (by omega)
    by_cases e1 : k = j
    · subst e1
      rw [if_pos rfl]
      exact hpar
    · rw [if_neg e1, if_neg (by omega)]
      have := h.2.1 k k0 hk e1
      rw [hpk] at this
      exact T.le_tr hpar this
/-- .. where it is too great (i), of the first n alone: down. -/
def DownInv (lt : α → α → Prop) (d : α) (xs : List α) (i n : Nat) : Prop :=
  (∀ k, 0 < k → k < n → par k ≠ i → le lt (xs.getD (par k) d) (xs.getD k d)) ∧ (∀ k, 0 < k → k < n → par k = i → 0 < i → le lt (xs.getD (par i) d) (xs.getD k d))
def HeapTo (lt : α → α → Prop) (d : α) (xs : List α) (n : Nat) : Prop := ∀ k, 0 < k → k < n → le lt (xs.getD (par k) d) (xs.getD k d)
theorem par_cases {k i : Nat} (h : 0 < k) (e : par k = i) : k = 2 * i + 1 ∨ k = 2 * i + 2 := by unfold par at e; omega
theorem par_l (i : Nat) : par (2 * i + 1) = i := by unfold par; omega
theorem par_r (i : Nat) : par (2 * i + 2) = i := by unfold par; omega
theorem DownInv.none {lt : α → α → Prop} {d : α} {xs : List α} {i n : Nat} (h : DownInv lt d xs i n) (hn : n ≤ 2 * i + 1) : HeapTo lt d xs n := by
  intro k h0 hk
  exact h.1 k h0 hk (fun e => by rcases par_cases h0 e with a | a <;> omega)
/-- j is the less of i's children. -/
def Lesser (lt : α → α → Prop) (d : α) (xs : List α) (i n j : Nat) : Prop := (j = 2 * i + 1 ∨ j = 2 * i + 2) ∧ j < n ∧ ∀ k, 0 < k → k < n → par k = i → le lt (xs.getD j d) (xs.getD k d)
theorem lesser_left {lt : α → α → Prop} (T : TO lt) {d : α} {xs : List α} {i n : Nat} (h1 : 2 * i + 1 < n) (h2 : n ≤ 2 * i + 2 ∨ ¬ lt (xs.getD (2 * i + 2) d) (xs.getD (2 * i + 1) d)) : Lesser lt d xs i n (2 * i + 1) := by
  refine ⟨.inl rfl, h1, fun k h0 hk e => ?_⟩
  rcases par_cases h0 e with rfl | rfl
  · exact T.le_refl _
  · rcases h2 with h | h
    · omega
    · exact h
theorem lesser_right {lt : α → α → Prop} (T : TO lt) {d : α} {xs : List α} {i n : Nat} (h1 : 2 * i + 2 < n) (h2 : lt (xs.getD (2 * i + 2) d) (xs.getD (2 * i + 1) d)) : Lesser lt d xs i n (2 * i + 2) := by
  refine ⟨.inr rfl, h1, fun k h0 hk e => ?_⟩
  rcases par_cases h0 e with rfl | rfl
  · exact T.lt_le h2
  · exact T.le_refl _
theorem DownInv.stop {lt : α → α → Prop} (T : TO lt) {d : α} {xs : List α} {i n j : Nat} (h : DownInv lt d xs i n) (hj : Lesser lt d xs i n j) (hs : ¬ lt (xs.getD j d) (xs.getD i d)) : HeapTo lt d xs n := by
  intro k h0 hk
  by_cases e : par k = i
  · rw [e]
    exact T.le_tr hs (hj.2.2 k h0 hk e)
  · exact h.1 k h0 hk e
theorem DownInv.step {lt : α → α → Prop} (T : TO lt) {d : α} {xs : List α} {i n j : Nat} (hn : n ≤ xs.length) (h : DownInv lt d xs i n) (hj : Lesser lt d xs i n j) (hs : lt (xs.getD j d) (xs.getD i d)) : DownInv lt d (sw d xs i j) j n := by
  obtain ⟨hji, hjn, hl⟩ := hj
  have hij : i < j := by omega
  have hpj : par j = i := by rcases hji with e | e <;> subst e <;> unfold par <;> omega
  have hg := fun k => sw_get d xs i j k (by omega) (by omega)
  refine ⟨fun k k0 hk hne => ?_, fun k k0 hk hpk hj0 => ?_⟩
  · have hpk := par_lt k0
    rw [hg, hg, if_neg hne]
    by_cases e1 : k = j
    · subst e1
      rw [if_pos rfl, hpj, if_pos rfl]
      exact T.lt_le hs
    · rw [if_neg e1]
      by_cases e2 : par k = i
      · rw [if_pos e2, if_neg (by omega)]
        exact hl k k0 hk e2
      · rw [if_neg e2]
        by_cases e3 : k = i
        · subst e3
          rw [if_pos rfl]
          have := h.2 j (by omega) hjn hpj k0
          exact this
        · rw [if_neg e3]
          exact h.1 k k0 hk e2
  · have hk' := par_lt k0
    rw [hg, hg, if_neg (show par j ≠ j by omega), if_pos hpj, if_neg (by omega), if_neg (by omega)]
    have := h.1 k k0 hk (by omega)
    rw [hpk] at this
    exact this
/-- The top is the least. -/
theorem HeapTo.top {lt : α → α → Prop} (T : TO lt) {d : α} {xs : List α} {n : Nat} (h : HeapTo lt d xs n) : ∀ k, k < n → le lt (xs.getD 0 d) (xs.getD k d) := by
  intro k
  induction k using Nat.strongRecOn with
  | _ k ih =>
    intro hk
    by_cases h0 : 0 < k
    · exact T.le_tr (ih _ (par_lt h0) (by have := par_lt h0; omega)) (h k h0 hk)
    · obtain rfl : k = 0 := by omega
      exact T.le_refl _
/-- The first and the last exchanged. -/
theorem pop_start {lt : α → α → Prop} {d : α} {xs : List α} (h : IsHeap lt d xs) (h0 : 0 < xs.length) : DownInv lt d (sw d xs 0 (xs.length - 1)) 0 (xs.length - 1) := by
  have hg := fun k => sw_get d xs 0 (xs.length - 1) k (by omega) (by omega)
  refine ⟨fun k k0 hk hne => ?_, fun k k0 hk hp h => by omega⟩
  have := par_lt k0
  rw [hg, hg, if_neg (by omega), if_neg hne, if_neg (by omega), if_neg (by omega)]
  exact h k k0 (by omega)
/-- What the walk down keeps. -/
def DownSt (lt : α → α → Prop) (d : α) (xs ys : List α) (i n : Nat) : Prop := DownInv lt d ys i n ∧ ys.Perm xs ∧ ∀ k, n ≤ k → ys.getD k d = xs.getD k d
theorem DownSt.step {lt : α → α → Prop} (T : TO lt) {d : α} {xs ys : List α} {i n j : Nat} (hn : n ≤ xs.length) (h : DownSt lt d xs ys i n) (hj : Lesser lt d ys i n j) (hs : lt (ys.getD j d) (ys.getD i d)) : DownSt lt d xs (sw d ys i j) j n := by
  obtain ⟨h1, h2, h3⟩ := h
  have hl := h2.length_eq
  have hi : i < j := by rcases hj.1 with e | e <;> omega
  have hj2 := hj.2.1
  refine ⟨h1.step T (by omega) hj hs, (sw_perm d ys i j (by omega) (by omega)).trans h2, fun k hk => ?_⟩
  rw [sw_get d ys i j k (by omega) (by omega), if_neg (by omega), if_neg (by omega)]
  exact h3 k hk
/-- What is left when the last one is taken. -/
theorem pop_end {lt : α → α → Prop} (T : TO lt) {d : α} {xs ys : List α} (h : IsHeap lt d xs) (h0 : 0 < xs.length) (hp : ys.Perm (sw d xs 0 (xs.length - 1))) (hk : ∀ k, xs.length - 1 ≤ k → ys.getD k d = (sw d xs 0 (xs.length - 1)).getD k d) (hh : HeapTo lt d ys (xs.length - 1)) :
    IsHeap lt d (ys.take (xs.length - 1)) ∧ ys.getD (xs.length - 1) d = xs.getD 0 d ∧ (xs.getD 0 d :: ys.take (xs.length - 1)).Perm xs ∧ ∀ x ∈ xs, le lt (xs.getD 0 d) x := by
  have hl : ys.length = xs.length := by rw [hp.length_eq, sw_len]
  have hlast : ys.getD (xs.length - 1) d = xs.getD 0 d := by
    rw [hk _ (Nat.le_refl _), sw_get d xs 0 (xs.length - 1) _ (by omega) (by omega), if_pos rfl]
  refine ⟨fun k k0 hk => ?_, hlast, ?_, fun x hx => ?_⟩
  · have hk' : k < xs.length - 1 := by simp at hk; omega
    have := par_lt k0
    have h1 := hh k k0 hk'
    simp only [List.getD_eq_getElem?_getD] at h1 ⊢
    rw [List.getElem?_take_of_lt (by omega), List.getElem?_take_of_lt (by omega)]
    exact h1
  · have e : ys = ys.take (xs.length - 1) ++ [xs.getD 0 d] := by
      rw [← hlast]
      have e1 : ys.take (xs.length - 1 + 1) = ys := List.take_of_length_le (by omega)
      have e2 := List.take_succ_eq_append_getElem (l := ys) (i := xs.length - 1) (by omega)
      rw [e1] at e2
      rw [List.getD_eq_getElem?_getD, List.getElem?_eq_getElem (by omega)]
      exact e2
    have hs := sw_perm d xs 0 (xs.length - 1) (by omega) (by omega)
    refine List.Perm.trans ?_ (hp.trans hs)
    conv => rhs; rw [e]
    exact (List.perm_append_comm (l₁ := [xs.getD 0 d]))
  · obtain ⟨k, hk, rfl⟩ := List.getElem_of_mem hx
    have := HeapTo.top T (n := xs.length) h k hk
    rw [List.getD_eq_getElem?_getD (i := k), List.getElem?_eq_getElem hk] at this
    exact this
end Go.Proofs.YtalkhiggapbfjaaDoor.Hp
