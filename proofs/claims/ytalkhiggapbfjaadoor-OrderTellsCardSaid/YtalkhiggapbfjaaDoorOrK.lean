/- What the order in which a set is told changes: nothing. -/
import Derived.Test.YtalkhiggapbfjaaDoorOrU
import Derived.Test.YtalkhiggapbfjaaDoorErrB
set_option linter.unusedVariables false
set_option linter.unusedSimpArgs false
namespace Go.Proofs.YtalkhiggapbfjaaDoor.Orp
open Go Go.RowKit Go.Proofs.YtalkhiggapbfjaaDoor.B Go.Proofs.YtalkhiggapbfjaaDoor.St Go.Proofs.YtalkhiggapbfjaaDoor.Mp
open Go.Proofs.YtalkhiggapbfjaaDoor.Hp (ltB le tob ltB_iff)
theorem Reach.congr {α : Type} {set set' : List (Nd α)} (h : ∀ x, x ∈ set → x ∈ set') {v d : α} (hr : Reach set v d) : Reach set' v d := by
  induction hr with
  | base x d hx e hd ht => exact .base x d (h x hx) e hd (by obtain ⟨y, hy, ey⟩ := ht; exact ⟨y, h y hy, ey⟩)
  | step c x d h1 hx e hd ht ih => exact .step c x d ih (h x hx) e hd (by obtain ⟨y, hy, ey⟩ := ht; exact ⟨y, h y hy, ey⟩)
theorem Head.congr {α : Type} {set set' : List (Nd α)} (h : ∀ x, x ∈ set ↔ x ∈ set') {n : α} (hh : Head set n) : Head set' n := by
  obtain ⟨⟨y, hy, e⟩, h2⟩ := hh
  exact ⟨⟨y, (h y).1 hy, e⟩, fun z hz => h2 z ((h z).2 hz)⟩
/-- A list that starts at place k, and what was ahead behind it. -/
def rot (zs : List Nx) (k : Nat) : List Nx := zs.drop k ++ zs.take k
theorem rot_perm (zs : List Nx) (k : Nat) : (rot zs k).reverse.Perm zs := by
  refine (List.reverse_perm _).trans ?_
  unfold rot
  refine List.perm_append_comm.trans ?_
  rw [List.take_append_drop]
theorem rot_len (zs : List Nx) (k : Nat) : (rot zs k).length = zs.length := by
  have := (rot_perm zs k).length_eq
  rwa [List.length_reverse] at this
theorem rot_at {zs : List Nx} {k i t : Nat} (hk : k < zs.length) (hi : i < zs.length) (ht : (i + k) % zs.length = t) (h : t < zs.length) : (rot zs k)[i]'(by rw [rot_len]; exact hi) = zs[t] := by
  unfold rot
  by_cases hs : i + k < zs.length
  · have : t = i + k := by rw [← ht, Nat.mod_eq_of_lt hs]
    subst this
    rw [List.getElem_append_left (by rw [List.length_drop]; omega), List.getElem_drop]
    congr 1
    omega
  · have : t = i + k - zs.length := by rw [← ht, Nat.mod_eq_sub_mod (by omega), Nat.mod_eq_of_lt (by omega)]
    subst this
    rw [List.getElem_append_right (by rw [List.length_drop]; omega), List.getElem_take]
    congr 1
    rw [List.length_drop]
    omega
theorem names_perm {zs zs' : List Nx} (h : zs'.Perm zs) : (names zs').Nodup ↔ (names zs).Nodup := (h.map _).nodup_iff
theorem nds_mem {zs zs' : List Nx} (h : zs'.Perm zs) (x : Nd ByteArray) : x ∈ nds zs' ↔ x ∈ nds zs := (h.map _).mem_iff
/-- An error that is none, or an Errno. -/
def ErK (er : Value) (k : Int) : Prop := (er = .nilIface ∧ k = 0) ∨ er = .iface 48 (.int .i64 k)
theorem lin_two {zs zs' : List Nx} (hp : zs'.Perm zs) {b b' : Nat} {w w' : World} {v er v' er' : Value} (h : LinRes zs b w v er) (h' : LinRes zs' b' w' v' er') : ∃ L k, SRow b w v L ∧ SRow b' w' v' L ∧ L.length ≤ zs.length ∧ ErK er k ∧ ErK er' k := by
  rcases h with ⟨hn, rfl, rfl⟩ | ⟨hn, l, hl, h⟩
  · rcases h' with ⟨_, rfl, rfl⟩ | ⟨hn', _⟩
    · exact ⟨[], _, SRow.nil _ _, SRow.nil _ _, Nat.zero_le _, .inr rfl, .inr rfl⟩
    · exact absurd ((names_perm hp).1 hn') hn
  · rcases h' with ⟨hn', _⟩ | ⟨_, l', hl', h'⟩
    · exact absurd ((names_perm hp).2 hn) hn'
    · have e : l' = l := (hl'.congr (nds_mem hp)).uniq Hp.tob hl
      subst e
      have hlen := hp.length_eq
      rcases h with ⟨hlt, rfl, rfl⟩ | ⟨hle, rfl, hr⟩
      · rcases h' with ⟨_, rfl, rfl⟩ | ⟨hle', _⟩
        · exact ⟨[], _, SRow.nil _ _, SRow.nil _ _, Nat.zero_le _, .inr rfl, .inr rfl⟩
        · omega
      · rcases h' with ⟨hlt', _⟩ | ⟨_, rfl, hr'⟩
        · omega
        · exact ⟨l', 0, hr, hr', by omega, .inl ⟨rfl, rfl⟩, .inl ⟨rfl, rfl⟩⟩
theorem code_c {er : Value} {k : Int} (h : ErK er k) (w : World) (hg : Err.ErrT w) : Calls Tryd.prog 9 #[er] w fun e w' => e = .returned (.int .i64 k) ∧ Below w.heap.size w w' := by
  rcases h with ⟨rfl, rfl⟩ | rfl
  · refine (Err.Code_nil w).mono ?_
    rintro e w' ⟨rfl, rfl⟩
    exact ⟨rfl, Below.refl _ _⟩
  · exact Err.Code_errno k w hg
theorem rising_two {zs : List Nx} {b b' : Nat} {w w' : World} {v v' : Value} {S S' : ByteArray → Prop} (h : Rising b w v S) (h' : Rising b' w' v' S') (hS : ∀ s, S s ↔ S' s) (hn : ∀ s, S s → s ∈ names zs) : ∃ L, SRow b w v L ∧ SRow b' w' v' L ∧ L.length ≤ zs.length := by
  obtain ⟨l, h1, h2, h3⟩ := h
  obtain ⟨m, k1, k2, k3⟩ := h'
  have e : l = m := rising_eq h2 k2 fun s => (h3 s).trans ((hS s).trans (k3 s).symm)
  subst e
  refine ⟨l, h1, k1, ?_⟩
  have := subset_len (m := names zs) (ss_nodup h2) fun x hx => hn x ((h3 x).1 hx)
  unfold names at this
  rwa [List.length_map] at this
end Go.Proofs.YtalkhiggapbfjaaDoor.Orp
