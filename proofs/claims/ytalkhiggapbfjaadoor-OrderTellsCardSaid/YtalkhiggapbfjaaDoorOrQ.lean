/- The order of a set in plain Lean: what the program counts while it tells names. -/
import Derived.Test.YtalkhiggapbfjaaDoorOrP
set_option linter.unusedVariables false
set_option linter.unusedSimpArgs false
namespace Go.Proofs.YtalkhiggapbfjaaDoor.Orp
open Go.Proofs.YtalkhiggapbfjaaDoor.Hp (TO le)
set_option linter.unusedSectionVars false
variable {α : Type} [DecidableEq α]
/-- How many of a list's names aren't told. -/
def miss (told l : List α) : Nat := (l.filter fun d => !told.contains d).length
theorem miss_zero {told l : List α} : miss told l = 0 ↔ ∀ d ∈ l, d ∈ told := by
  unfold miss
  rw [List.length_eq_zero_iff, List.filter_eq_nil_iff]
  constructor <;> intro h d hd
  · have := h d hd
    simpa using this
  · have := h d hd
    simpa using this
theorem miss_nil (l : List α) : miss [] l = l.length := by
  unfold miss
  rw [List.filter_eq_self.2]
  intro a _
  simp
theorem miss_same {told l : List α} {s : α} (h : s ∉ l) : miss (told ++ [s]) l = miss told l := by
  unfold miss
  congr 1
  apply List.filter_congr
  intro d hd
  have : d ≠ s := fun e => h (e ▸ hd)
  simp [this]
theorem miss_step {told : List α} {s : α} (hs : s ∉ told) : ∀ {l : List α}, l.Nodup → s ∈ l → miss told l = miss (told ++ [s]) l + 1
  | [], _, h => by cases h
  | a :: l, hn, h => by
    obtain ⟨h1, h2⟩ := List.nodup_cons.1 hn
    by_cases e : a = s
    · subst e
      have := miss_same (told := told) h1
      unfold miss at this ⊢
      simp only [List.filter_cons]
      have e1 : (!told.contains a) = true := by simpa using hs
      have e2 : (!(told ++ [a]).contains a) = false := by simp
      rw [if_pos e1, if_neg (by rw [e2]; simp), this]
      rfl
    · have hm : s ∈ l := by
        rcases List.mem_cons.1 h with h | h
        · exact absurd h.symm e
        · exact h
      have ih := miss_step hs h2 hm
      unfold miss at ih ⊢
      simp only [List.filter_cons]
      have e2 : (!(told ++ [s]).contains a) = (!told.contains a) := by simp [e]
      rw [e2]
      by_cases c : (!told.contains a) = true
      · rw [if_pos c, if_pos c, List.length_cons, List.length_cons, ih]
      · rw [if_neg c, if_neg c]; exact ih
/-- Who needs a name. -/
def usersOf (set : List (Nd α)) (d : α) : List α := (set.filter fun x => x.deps.contains d).map Nd.nm
theorem users_mem {set : List (Nd α)} {d s : α} : s ∈ usersOf set d ↔ ∃ x ∈ set, x.nm = s ∧ d ∈ x.deps := by
  unfold usersOf
  simp only [List.mem_map, List.mem_filter]
  constructor
  · rintro ⟨x, ⟨h1, h2⟩, e⟩
    exact ⟨x, h1, e, by simpa using h2⟩
  · rintro ⟨x, h1, e, h2⟩
    exact ⟨x, ⟨h1, by simpa using h2⟩, e⟩
theorem users_nodup {set : List (Nd α)} (hn : (set.map Nd.nm).Nodup) (d : α) : (usersOf set d).Nodup :=
  List.Nodup.sublist (List.Sublist.map _ List.filter_sublist) hn
/-- What is ready while those that need s are gone through. -/
def HpIn (need : Nd α → List α) (set : List (Nd α)) (told : List α) (s : α) (us : List α) (k : Nat) (n : α) : Prop :=
  (RN set told n ∧ n ≠ s) ∨ (n ∈ us.take k ∧ ∃ x ∈ set, x.nm = n ∧ miss (told ++ [s]) (need x) = 0)
theorem hpIn_zero {need : Nd α → List α} {set : List (Nd α)} {told : List α} {s : α} {us : List α} {n : α} : HpIn need set told s us 0 n ↔ RN set told n ∧ n ≠ s := by
  unfold HpIn; simp
variable {need : Nd α → List α} {set : List (Nd α)} {told : List α} {s : α}
theorem take_succ_mem {us : List α} {k : Nat} (hk : k < us.length) {n : α} : n ∈ us.take (k + 1) ↔ n = us[k] ∨ n ∈ us.take k := by
  rw [List.take_succ_eq_append_getElem hk, List.mem_append, List.mem_singleton]
  exact or_comm
theorem hpIn_push {us : List α} {k : Nat} (hk : k < us.length) {x : Nd α} (hx : x ∈ set) (e : x.nm = us[k]) (h0 : miss (told ++ [s]) (need x) = 0) {n : α} : HpIn need set told s us (k + 1) n ↔ n = us[k] ∨ HpIn need set told s us k n := by
  unfold HpIn
  rw [take_succ_mem hk]
  constructor
  · rintro (h | ⟨h | h, y⟩)
    · exact .inr (.inl h)
    · exact .inl h
    · exact .inr (.inr ⟨h, y⟩)
  · rintro (h | h | ⟨h, y⟩)
    · exact .inr ⟨.inl h, x, hx, e.trans h.symm, h0⟩
    · exact .inl h
    · exact .inr ⟨.inr h, y⟩
theorem hpIn_skip (hn : (set.map Nd.nm).Nodup) {us : List α} {k : Nat} (hk : k < us.length) {x : Nd α} (hx : x ∈ set) (e : x.nm = us[k]) (h0 : miss (told ++ [s]) (need x) ≠ 0) {n : α} : HpIn need set told s us (k + 1) n ↔ HpIn need set told s us k n := by
  unfold HpIn
  rw [take_succ_mem hk]
  constructor
  · rintro (h | ⟨h | h, y, hy, ey, y0⟩)
    · exact .inl h
    · exact absurd y0 (by rw [nm_inj hn y hy x hx (ey.trans (h.trans e.symm))]; exact h0)
    · exact .inr ⟨h, y, hy, ey, y0⟩
  · rintro (h | ⟨h, y⟩)
    · exact .inl h
    · exact .inr ⟨.inr h, y⟩
theorem nodup_take_not {us : List α} (hn : us.Nodup) {k : Nat} (hk : k < us.length) : us[k] ∉ us.take k := by
  intro h
  have h1 : (us.take k ++ us[k] :: us.drop (k + 1)).Nodup := by
    have : us.take k ++ us[k] :: us.drop (k + 1) = us := by
      rw [← List.drop_eq_getElem_cons hk, List.take_append_drop]
    rw [this]; exact hn
  exact (List.nodup_append.1 h1).2.2 _ h _ (List.mem_cons_self) rfl
theorem hpIn_new (hn : (set.map Nd.nm).Nodup) (hs : s ∉ told) {k : Nat} (hk : k < (usersOf set s).length) : ¬ HpIn need set told s (usersOf set s) k (usersOf set s)[k] := by
  rintro (⟨⟨x, hx, e, hr⟩, _⟩ | ⟨h, _⟩)
  · obtain ⟨y, hy, ey, hd⟩ := users_mem.1 (List.getElem_mem hk)
    rw [nm_inj hn x hx y hy (e.trans ey.symm)] at hr
    exact hs (hr.2 s hd)
  · exact nodup_take_not (users_nodup hn s) hk h
theorem hpIn_end (hneed : ∀ x ∈ set, ∀ d, d ∈ need x ↔ d ∈ x.deps) (hs : RN set told s) (hg : ∀ x ∈ set, x.nm ∈ told → ∀ d ∈ x.deps, d ∈ told) (hn : (set.map Nd.nm).Nodup) {n : α} : HpIn need set told s (usersOf set s) (usersOf set s).length n ↔ RN set (told ++ [s]) n := by
  have hsn : s ∉ told := by obtain ⟨x, _, e, hr, _⟩ := hs; exact e ▸ hr
  unfold HpIn
  rw [List.take_of_length_le (Nat.le_refl _)]
  constructor
  · rintro (⟨⟨x, hx, rfl, hr, hd⟩, hne⟩ | ⟨hu, x, hx, rfl, h0⟩)
    · exact ⟨x, hx, rfl, by simp [hr, hne], fun d h => by simp [hd d h]⟩
    · have hall := miss_zero.1 h0
      obtain ⟨y, hy, ey, hd⟩ := users_mem.1 hu
      have exy := nm_inj hn y hy x hx ey
      subst exy
      refine ⟨y, hy, rfl, fun h => ?_, fun d h => hall d ((hneed y hy d).2 h)⟩
      rcases List.mem_append.1 h with h | h
      · exact hsn (hg y hy h s hd)
      · have e : y.nm = s := by simpa using h
        obtain ⟨z, hz, ez, hzr, hzd⟩ := hs
        have := nm_inj hn z hz y hy (ez.trans e.symm)
        subst this
        exact hsn (hzd s hd)
  · rintro ⟨x, hx, rfl, hr, hd⟩
    have hr' : x.nm ∉ told ∧ x.nm ≠ s := by simpa using hr
    by_cases hm : s ∈ x.deps
    · exact .inr ⟨users_mem.2 ⟨x, hx, rfl, hm⟩, x, hx, rfl, miss_zero.2 fun d h => hd d ((hneed x hx d).1 h)⟩
    · refine .inl ⟨⟨x, hx, rfl, hr'.1, fun d h => ?_⟩, hr'.2⟩
      have := hd d h
      rcases List.mem_append.1 this with h1 | h1
      · exact h1
      · have e : d = s := by simpa using h1
        exact absurd (e ▸ h) hm
/-- The least of a heap is what comes next. -/
theorem least_of {lt : α → α → Prop} {hp : List α} (hm : ∀ n, n ∈ hp ↔ RN set told n) (hs : s ∈ hp) (hl : ∀ x ∈ hp, le lt s x) : IsLeast lt set told s := ⟨(hm s).1 hs, fun t ht => hl t ((hm t).2 ht)⟩
theorem Greedy.deps {lt : α → α → Prop} (hn : (set.map Nd.nm).Nodup) (h : Greedy lt set told) : ∀ x ∈ set, x.nm ∈ told → ∀ d ∈ x.deps, d ∈ told := by
  intro x hx hm d hd
  obtain ⟨k, hk, e⟩ := List.getElem_of_mem hm
  exact List.mem_of_mem_take (h.behind (nm_inj hn) hx hk e d hd)
end Go.Proofs.YtalkhiggapbfjaaDoor.Orp
