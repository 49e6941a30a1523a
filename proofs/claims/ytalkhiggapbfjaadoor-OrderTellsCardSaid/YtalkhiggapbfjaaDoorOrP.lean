/- The order of a set in plain Lean: what Linear comes to. -/
import Derived.Test.YtalkhiggapbfjaaDoorHpP
set_option linter.unusedVariables false
set_option linter.unusedSimpArgs false
namespace Go.Proofs.YtalkhiggapbfjaaDoor.Orp
open Go.Proofs.YtalkhiggapbfjaaDoor.Hp (TO le)
variable {α : Type}
/-- A patch: its name, what it needs. -/
structure Nd (α : Type) where
  nm : α
  deps : List α
def Ready (told : List α) (x : Nd α) : Prop := x.nm ∉ told ∧ ∀ d ∈ x.deps, d ∈ told
def RN (set : List (Nd α)) (told : List α) (s : α) : Prop := ∃ x ∈ set, x.nm = s ∧ Ready told x
def IsLeast (lt : α → α → Prop) (set : List (Nd α)) (told : List α) (s : α) : Prop := RN set told s ∧ ∀ t, RN set told t → le lt s t
/-- The least of those that are ready, again and again. -/
inductive Greedy (lt : α → α → Prop) (set : List (Nd α)) : List α → Prop
  | nil : Greedy lt set []
  | snoc (told : List α) (s : α) : Greedy lt set told → IsLeast lt set told s → Greedy lt set (told ++ [s])
def Stuck (set : List (Nd α)) (told : List α) : Prop := ∀ s, ¬ RN set told s
def Lin (lt : α → α → Prop) (set : List (Nd α)) (l : List α) : Prop := Greedy lt set l ∧ Stuck set l
theorem IsLeast.uniq {lt : α → α → Prop} (T : TO lt) {set : List (Nd α)} {told : List α} {s t : α} (h : IsLeast lt set told s) (k : IsLeast lt set told t) : s = t := by
  by_cases e : s = t
  · exact e
  · rcases T.tot s t e with a | a
    · exact absurd a (k.2 s h.1)
    · exact absurd a (h.2 t k.1)
/-- Each beginning of what was told was told so. -/
theorem Greedy.take {lt : α → α → Prop} {set : List (Nd α)} {l : List α} (h : Greedy lt set l) : ∀ k, Greedy lt set (l.take k) := by
  induction h with
  | nil => intro k; simp; exact .nil
  | snoc told s h1 h2 ih =>
    intro k
    by_cases hk : k ≤ told.length
    · rw [List.take_append_of_le_length hk]; exact ih k
    · rw [List.take_of_length_le (by simp; omega)]; exact .snoc _ _ h1 h2
theorem Greedy.at {lt : α → α → Prop} {set : List (Nd α)} {l : List α} (h : Greedy lt set l) : ∀ k (hk : k < l.length), IsLeast lt set (l.take k) l[k] := by
  induction h with
  | nil => intro k hk; simp at hk
  | snoc told s h1 h2 ih =>
    intro k hk
    by_cases hk' : k < told.length
    · rw [List.take_append_of_le_length (by omega), List.getElem_append_left hk']; exact ih k hk'
    · have : k = told.length := by simp at hk; omega
      subst this
      simp
      exact h2
theorem Lin.uniq {lt : α → α → Prop} (T : TO lt) {set : List (Nd α)} {l m : List α} (h : Lin lt set l) (k : Lin lt set m) : l = m := by
  have key : ∀ n, n ≤ l.length → n ≤ m.length → l.take n = m.take n := by
    intro n
    induction n with
    | zero => intros; simp
    | succ n ih =>
      intro a b
      have e := ih (by omega) (by omega)
      have h1 := h.1.at n (by omega)
      have h2 := k.1.at n (by omega)
      rw [← e] at h2
      rw [List.take_succ_eq_append_getElem (by omega), List.take_succ_eq_append_getElem (by omega), e, h1.uniq T h2]
  by_cases hlt : l.length < m.length
  · have e := key l.length (Nat.le_refl _) (by omega)
    rw [List.take_of_length_le (Nat.le_refl _)] at e
    have h2 := k.1.at l.length hlt
    rw [← e] at h2
    exact absurd h2.1 (h.2 _)
  · by_cases hgt : m.length < l.length
    · have e := key m.length (by omega) (Nat.le_refl _)
      rw [List.take_of_length_le (l := m) (Nat.le_refl _)] at e
      have h2 := h.1.at m.length hgt
      rw [e] at h2
      exact absurd h2.1 (k.2 _)
    · have e := key l.length (Nat.le_refl _) (by omega)
      rw [List.take_of_length_le (Nat.le_refl _), List.take_of_length_le (by omega)] at e
      exact e
theorem RN.congr {set set' : List (Nd α)} (hs : ∀ x, x ∈ set ↔ x ∈ set') {told : List α} {s : α} : RN set told s ↔ RN set' told s := by
  unfold RN
  constructor <;> rintro ⟨x, hx, r⟩
  · exact ⟨x, (hs x).1 hx, r⟩
  · exact ⟨x, (hs x).2 hx, r⟩
theorem Lin.congr {lt : α → α → Prop} {set set' : List (Nd α)} (hs : ∀ x, x ∈ set ↔ x ∈ set') {l : List α} (h : Lin lt set l) : Lin lt set' l := by
  refine ⟨?_, fun s hr => h.2 s ((RN.congr hs).2 hr)⟩
  have h1 := h.1
  clear h
  induction h1 with
  | nil => exact .nil
  | snoc told s h1 h2 ih => exact .snoc _ _ ih ⟨(RN.congr hs).1 h2.1, fun t ht => h2.2 t ((RN.congr hs).2 ht)⟩
theorem Greedy.nodup {lt : α → α → Prop} {set : List (Nd α)} {l : List α} (h : Greedy lt set l) : l.Nodup := by
  induction h with
  | nil => exact .nil
  | snoc told s h1 h2 ih =>
    obtain ⟨x, _, e, hr, _⟩ := h2.1
    subst e
    rw [List.nodup_append]
    exact ⟨ih, by simp, fun a ha b hb => by rintro rfl; simp at hb; exact hr (hb ▸ ha)⟩
theorem Greedy.names {lt : α → α → Prop} {set : List (Nd α)} {l : List α} (h : Greedy lt set l) : ∀ s ∈ l, ∃ x ∈ set, x.nm = s := by
  intro s hs
  obtain ⟨k, hk, rfl⟩ := List.getElem_of_mem hs
  obtain ⟨x, hx, e, _⟩ := (h.at k hk).1
  exact ⟨x, hx, e⟩
/-- All are told: nobody is ready. -/
theorem subset_len {l m : List α} (hl : l.Nodup) (h : ∀ x ∈ l, x ∈ m) : l.length ≤ m.length := by
  induction l generalizing m with
  | nil => simp
  | cons a l ih =>
    obtain ⟨h1, h2⟩ := List.nodup_cons.1 hl
    have ha := h a (by simp)
    obtain ⟨p, q, rfl⟩ := List.append_of_mem ha
    have := ih (m := p ++ q) h2 (fun x hx => by
      have := h x (by simp [hx])
      simp at this
      rcases this with h | h | h
      · simp [h]
      · subst h; exact absurd hx h1
      · simp [h])
    simp at this ⊢
    omega
theorem full_stuck {lt : α → α → Prop} {set : List (Nd α)} {l : List α} (h : Greedy lt set l) (hn : (set.map Nd.nm).Nodup) (hl : set.length ≤ l.length) : Stuck set l := by
  rintro s ⟨x, hx, rfl, hr, _⟩
  have hsub : ∀ y ∈ x.nm :: l, y ∈ set.map Nd.nm := by
    intro y hy
    rcases List.mem_cons.1 hy with rfl | hy
    · exact List.mem_map.2 ⟨x, hx, rfl⟩
    · obtain ⟨z, hz, e⟩ := h.names y hy
      exact List.mem_map.2 ⟨z, hz, e⟩
  have := subset_len (List.nodup_cons.2 ⟨hr, h.nodup⟩) hsub
  simp at this
  omega
theorem Greedy.len {lt : α → α → Prop} {set : List (Nd α)} {l : List α} (h : Greedy lt set l) : l.length ≤ set.length := by
  have := subset_len (m := set.map Nd.nm) h.nodup (fun y hy => by obtain ⟨z, hz, e⟩ := h.names y hy; exact List.mem_map.2 ⟨z, hz, e⟩)
  simpa using this
/-- What was told: each stands behind what it needs. -/
theorem Greedy.behind {lt : α → α → Prop} {set : List (Nd α)} (hn : ∀ x ∈ set, ∀ y ∈ set, x.nm = y.nm → x = y) {l : List α} (h : Greedy lt set l) {x : Nd α} (hx : x ∈ set) {k : Nat} (hk : k < l.length) (e : l[k] = x.nm) : ∀ d ∈ x.deps, d ∈ l.take k := by
  obtain ⟨y, hy, ey, _, hd⟩ := (h.at k hk).1
  rw [e] at ey
  have := hn y hy x hx ey
  subst this
  exact hd
/-- A set that has an order (a rank) has all its names told. -/
theorem closed_full {lt : α → α → Prop} {set : List (Nd α)} {l : List α} (h : Lin lt set l) (hn : (set.map Nd.nm).Nodup) (rank : α → Nat) (ho : ∀ x ∈ set, ∀ d ∈ x.deps, rank d < rank x.nm ∧ ∃ y ∈ set, y.nm = d) : l.length = set.length := by
  have hall : ∀ n, ∀ x ∈ set, rank x.nm < n → x.nm ∈ l := by
    intro n
    induction n with
    | zero => intro x hx h; omega
    | succ n ih =>
      intro x hx hlt
      apply Classical.byContradiction
      intro hnot
      refine h.2 x.nm ⟨x, hx, rfl, hnot, fun d hdx => ?_⟩
      obtain ⟨h1, y, hy, rfl⟩ := ho x hx d hdx
      exact ih y hy (by omega)
  have h1 := subset_len (m := l) hn (fun s hs => by
    obtain ⟨x, hx, rfl⟩ := List.mem_map.1 hs
    exact hall _ x hx (Nat.lt_succ_self _))
  have h2 := h.1.len
  simp at h1
  omega
theorem nm_inj : ∀ {set : List (Nd α)}, (set.map Nd.nm).Nodup → ∀ x ∈ set, ∀ y ∈ set, x.nm = y.nm → x = y
  | [], _, x, hx, _, _, _ => by cases hx
  | a :: set, hn, x, hx, y, hy, e => by
    obtain ⟨h1, h2⟩ := List.nodup_cons.1 (show (a.nm :: set.map Nd.nm).Nodup from hn)
    rcases List.mem_cons.1 hx with ex | hx'
    · rcases List.mem_cons.1 hy with ey | hy'
      · rw [ex, ey]
      · rw [ex] at e
        exact absurd (List.mem_map.2 ⟨y, hy', e.symm⟩) h1
    · rcases List.mem_cons.1 hy with ey | hy'
      · rw [ey] at e
        exact absurd (List.mem_map.2 ⟨x, hx', e⟩) h1
      · exact nm_inj h2 x hx' y hy' e
/-- The place of a name. -/
def rk [DecidableEq α] (l : List α) (s : α) : Nat := l.idxOf s
theorem rk_take [DecidableEq α] {l : List α} {d : α} {k : Nat} (h : d ∈ l.take k) : rk l d < k := by
  unfold rk
  have e : l.idxOf d = (l.take k).idxOf d := by
    conv => lhs; rw [← List.take_append_drop k l]
    rw [List.idxOf_append, if_pos h]
  have := List.idxOf_lt_length_of_mem h
  rw [e]
  simp at this
  omega
theorem rk_at [DecidableEq α] {l : List α} (hl : l.Nodup) {k : Nat} (hk : k < l.length) : rk l l[k] = k := by
  unfold rk
  exact List.Nodup.idxOf_getElem hl k hk
/-- In a closed set all needs are told ahead. -/
theorem Lin.ranked [DecidableEq α] {lt : α → α → Prop} {set : List (Nd α)} {l : List α} (h : Lin lt set l) (hn : (set.map Nd.nm).Nodup) (hl : l.length = set.length) : ∀ x ∈ set, x.nm ∈ l ∧ ∀ d ∈ x.deps, rk l d < rk l x.nm ∧ d ∈ l := by
  have hinj := nm_inj hn
  intro x hx
  have hmem : x.nm ∈ l := by
    apply Classical.byContradiction
    intro hnot
    have := subset_len (l := x.nm :: l) (m := set.map Nd.nm) (List.nodup_cons.2 ⟨hnot, h.1.nodup⟩) (fun y hy => by
      rcases List.mem_cons.1 hy with rfl | hy
      · exact List.mem_map.2 ⟨x, hx, rfl⟩
      · obtain ⟨z, hz, e⟩ := h.1.names y hy
        exact List.mem_map.2 ⟨z, hz, e⟩)
    simp at this
    omega
  refine ⟨hmem, fun d hd => ?_⟩
  obtain ⟨k, hk, e⟩ := List.getElem_of_mem hmem
  have hm := h.1.behind hinj hx hk e d hd
  exact ⟨by rw [← e, rk_at h.1.nodup hk]; exact rk_take hm, List.mem_of_mem_take hm⟩
end Go.Proofs.YtalkhiggapbfjaaDoor.Orp
