/- The order of a set in plain Lean: pasts, heads, parts. -/
import Derived.Test.YtalkhiggapbfjaaDoorOrQ
set_option linter.unusedVariables false
set_option linter.unusedSimpArgs false
set_option linter.unusedSectionVars false
namespace Go.Proofs.YtalkhiggapbfjaaDoor.Orp
open Go.Proofs.YtalkhiggapbfjaaDoor.Hp (TO le)
variable {α : Type} [DecidableEq α]
def There (set : List (Nd α)) (d : α) : Prop := ∃ y ∈ set, y.nm = d
/-- What a name needs, through however many. -/
inductive Reach (set : List (Nd α)) (v : α) : α → Prop
  | base (x : Nd α) (d : α) : x ∈ set → x.nm = v → d ∈ x.deps → There set d → Reach set v d
  | step (c : α) (x : Nd α) (d : α) : Reach set v c → x ∈ set → x.nm = c → d ∈ x.deps → There set d → Reach set v d
theorem Reach.there {set : List (Nd α)} {v d : α} (h : Reach set v d) : There set d := by cases h <;> assumption
theorem Reach.trans {set : List (Nd α)} {v c d : α} (h : Reach set v c) (k : Reach set c d) : Reach set v d := by
  induction k with
  | base x d hx e hd ht => exact .step c x d h hx e hd ht
  | step c' x d _ hx e hd ht ih => exact .step c' x d ih hx e hd ht
/-- All that c needs is in S. -/
def Closed (set : List (Nd α)) (S : α → Prop) (c : α) : Prop := ∀ x ∈ set, x.nm = c → ∀ d ∈ x.deps, There set d → S d
theorem reach_of_closed {set : List (Nd α)} {S : α → Prop} {v : α} (hv : Closed set S v) (h : ∀ c, S c → Closed set S c) {d : α} (hr : Reach set v d) : S d := by
  induction hr with
  | base x d hx e hd ht => exact hv x hx e d hd ht
  | step c x d _ hx e hd ht ih => exact h c ih x hx e d hd ht
/-- What a walk from v comes to: from the seen S to S'. -/
def Dfs (set : List (Nd α)) (v : α) (S S' : α → Prop) : Prop :=
  (∀ d, S d → S' d) ∧ (∀ d, S' d → S d ∨ Reach set v d) ∧ (∀ c, S' c → ¬ S c → Closed set S' c) ∧ Closed set S' v
/-- .. while the needs of v are gone through. -/
def DfsTo (set : List (Nd α)) (v : α) (S S' : α → Prop) (ds : List α) : Prop :=
  (∀ d, S d → S' d) ∧ (∀ d, S' d → S d ∨ Reach set v d) ∧ (∀ c, S' c → ¬ S c → Closed set S' c) ∧ ∀ d ∈ ds, There set d → S' d
theorem DfsTo.nil (set : List (Nd α)) (v : α) (S : α → Prop) : DfsTo set v S S [] := ⟨fun _ h => h, fun _ h => .inl h, fun _ h k => absurd h k, fun _ h => by cases h⟩
theorem DfsTo.skip {set : List (Nd α)} {v d : α} {S S' : α → Prop} {ds : List α} (h : DfsTo set v S S' ds) (hd : There set d → S' d) : DfsTo set v S S' (ds ++ [d]) :=
  ⟨h.1, h.2.1, h.2.2.1, fun x hx ht => by
    rcases List.mem_append.1 hx with hx | hx
    · exact h.2.2.2 x hx ht
    · have e : x = d := by simpa using hx
      subst e; exact hd ht⟩
theorem DfsTo.go {set : List (Nd α)} {v d : α} {S S' S'' : α → Prop} {ds : List α} (h : DfsTo set v S S' ds) (hv : ∃ x ∈ set, x.nm = v ∧ d ∈ x.deps) (ht : There set d) (hw : Dfs set d (fun c => c = d ∨ S' c) S'') : DfsTo set v S S'' (ds ++ [d]) := by
  obtain ⟨x, hx, ex, hd⟩ := hv
  have hr : Reach set v d := .base x d hx ex hd ht
  have hmono : ∀ c, S' c → S'' c := fun c hc => hw.1 c (.inr hc)
  refine ⟨fun c hc => hmono c (h.1 c hc), fun c hc => ?_, fun c hc hn => ?_, fun c hc ht' => ?_⟩
  · rcases hw.2.1 c hc with (rfl | h1) | h1
    · exact .inr hr
    · exact h.2.1 c h1
    · exact .inr (hr.trans h1)
  · by_cases e : c = d
    · subst e; exact hw.2.2.2
    · by_cases h1 : S' c
      · intro y hy ey z hz htz
        exact hmono z (h.2.2.1 c h1 hn y hy ey z hz htz)
      · exact hw.2.2.1 c hc (fun h2 => h2.elim e h1)
  · rcases List.mem_append.1 hc with hc | hc
    · exact hmono c (h.2.2.2 c hc ht')
    · have e : c = d := by simpa using hc
      subst e; exact hw.1 c (.inl rfl)
theorem DfsTo.done {set : List (Nd α)} {v : α} {S S' : α → Prop} {ds : List α} (h : DfsTo set v S S' ds) (hds : ∀ x ∈ set, x.nm = v → ∀ d ∈ x.deps, d ∈ ds) : Dfs set v S S' :=
  ⟨h.1, h.2.1, h.2.2.1, fun x hx e d hd ht => h.2.2.2 d (hds x hx e d hd) ht⟩
theorem Dfs.whole {set : List (Nd α)} {v : α} {S' : α → Prop} (h : Dfs set v (fun _ => False) S') (d : α) : S' d ↔ Reach set v d :=
  ⟨fun hd => (h.2.1 d hd).elim False.elim id, reach_of_closed h.2.2.2 (fun c hc => h.2.2.1 c hc id)⟩
/-- Nobody needs it. -/
def Head (set : List (Nd α)) (n : α) : Prop := There set n ∧ ∀ y ∈ set, n ∉ y.deps
/-! ### beginnings -/
def only (set : List (Nd α)) (l : List α) : List (Nd α) := set.filter fun x => l.contains x.nm
theorem only_mem {set : List (Nd α)} {l : List α} {x : Nd α} : x ∈ only set l ↔ x ∈ set ∧ x.nm ∈ l := by unfold only; simp
theorem only_nodup {set : List (Nd α)} (hn : (set.map Nd.nm).Nodup) (l : List α) : ((only set l).map Nd.nm).Nodup := List.Nodup.sublist (List.Sublist.map _ List.filter_sublist) hn
/-- A part in which all needs lie is closed. -/
theorem part_closed {lt : α → α → Prop} {set : List (Nd α)} {l : List α} (h : Lin lt set l) (hn : (set.map Nd.nm).Nodup) (hl : l.length = set.length) {q m : List α} (hq : ∀ x ∈ set, x.nm ∈ q → ∀ d ∈ x.deps, d ∈ q) (hm : Lin lt (only set q) m) : m.length = (only set q).length := by
  refine closed_full hm (only_nodup hn q) (rk l) fun x hx d hd => ?_
  obtain ⟨hx1, hx2⟩ := only_mem.1 hx
  obtain ⟨h1, h2⟩ := (h.ranked hn hl x hx1).2 d hd
  obtain ⟨y, hy, ey⟩ := h.1.names d h2
  exact ⟨h1, y, only_mem.2 ⟨hy, by rw [ey]; exact hq x hx1 hx2 d hd⟩, ey⟩
theorem take_part {lt : α → α → Prop} {set : List (Nd α)} {l : List α} (h : Lin lt set l) (hn : (set.map Nd.nm).Nodup) (hl : l.length = set.length) (n : Nat) : ∀ x ∈ set, x.nm ∈ l.take n → ∀ d ∈ x.deps, d ∈ l.take n := (h.1.take n).deps hn
theorem reach_rank {lt : α → α → Prop} {set : List (Nd α)} {l : List α} (h : Lin lt set l) (hn : (set.map Nd.nm).Nodup) (hl : l.length = set.length) {v d : α} (hr : Reach set v d) : rk l d < rk l v := by
  induction hr with
  | base x d hx e hd _ => exact e ▸ ((h.ranked hn hl x hx).2 d hd).1
  | step c x d _ hx e hd _ ih => exact Nat.lt_trans (e ▸ ((h.ranked hn hl x hx).2 d hd).1) ih
theorem past_part {lt : α → α → Prop} {set : List (Nd α)} {l : List α} (h : Lin lt set l) (hn : (set.map Nd.nm).Nodup) (hl : l.length = set.length) {v : α} {q : List α} (hq : ∀ d, d ∈ q ↔ Reach set v d) : (∀ x ∈ set, x.nm ∈ q → ∀ d ∈ x.deps, d ∈ q) ∧ v ∉ q := by
  refine ⟨fun x hx hxq d hd => ?_, fun hv => Nat.lt_irrefl _ (reach_rank h hn hl ((hq v).1 hv))⟩
  have h2 := ((h.ranked hn hl x hx).2 d hd).2
  obtain ⟨y, hy, ey⟩ := h.1.names d h2
  exact (hq d).2 (.step x.nm x d ((hq _).1 hxq) hx rfl hd ⟨y, hy, ey⟩)
theorem only_len {lt : α → α → Prop} {set : List (Nd α)} {l : List α} (h : Lin lt set l) (hn : (set.map Nd.nm).Nodup) (hl : l.length = set.length) {q : List α} (hq : q.Nodup) (hs : ∀ d ∈ q, There set d) : (only set q).length = q.length := by
  have h1 : (only set q).length ≤ q.length := by
    have := subset_len (l := (only set q).map Nd.nm) (m := q) (only_nodup hn q) (fun d hd => by
      obtain ⟨x, hx, rfl⟩ := List.mem_map.1 hd
      exact (only_mem.1 hx).2)
    simpa using this
  have h2 : q.length ≤ (only set q).length := by
    have := subset_len (l := q) (m := (only set q).map Nd.nm) hq (fun d hd => by
      obtain ⟨y, hy, rfl⟩ := hs d hd
      exact List.mem_map.2 ⟨y, only_mem.2 ⟨hy, hd⟩, rfl⟩)
    simpa using this
  omega
theorem head_last {lt : α → α → Prop} {set : List (Nd α)} {l : List α} (h : Lin lt set l) (hn : (set.map Nd.nm).Nodup) (hl : l.length = set.length) (h0 : 0 < l.length) : Head set l[l.length - 1] := by
  have hlast : l[l.length - 1] ∈ l := List.getElem_mem _
  refine ⟨h.1.names _ hlast, fun y hy hd => ?_⟩
  obtain ⟨h1, _⟩ := (h.ranked hn hl y hy).2 _ hd
  rw [rk_at h.1.nodup] at h1
  have h2 := (h.ranked hn hl y hy).1
  have : rk l y.nm < l.length := List.idxOf_lt_length_of_mem h2
  omega
theorem rest_part {lt : α → α → Prop} {set : List (Nd α)} {l : List α} (h : Lin lt set l) (hn : (set.map Nd.nm).Nodup) (hl : l.length = set.length) {g : α} (hg : Head set g) : ∀ x ∈ set, x.nm ∈ l.filter (fun s => s != g) → ∀ d ∈ x.deps, d ∈ l.filter (fun s => s != g) := by
  intro x hx _ d hd
  refine List.mem_filter.2 ⟨((h.ranked hn hl x hx).2 d hd).2, ?_⟩
  have : d ≠ g := fun e => hg.2 x hx (e ▸ hd)
  simpa using this
theorem filter_drop {l : List α} (hl : l.Nodup) (n : Nat) : l.filter (fun s => !(l.take n).contains s) = l.drop n := by
  conv => lhs; arg 2; rw [← List.take_append_drop n l]
  rw [List.filter_append]
  have h1 : (l.take n).filter (fun s => !(l.take n).contains s) = [] := by
    rw [List.filter_eq_nil_iff]
    intro a ha
    simp [ha]
  have h2 : (l.drop n).filter (fun s => !(l.take n).contains s) = l.drop n := by
    rw [List.filter_eq_self]
    intro a ha
    have h3 : (l.take n ++ l.drop n).Nodup := by rw [List.take_append_drop]; exact hl
    have := (List.nodup_append.1 h3).2.2
    simp only [Bool.not_eq_true', List.contains_eq_mem, decide_eq_false_iff_not]
    exact fun h => this a h a ha rfl
  rw [h1, h2, List.nil_append]
end Go.Proofs.YtalkhiggapbfjaaDoor.Orp
