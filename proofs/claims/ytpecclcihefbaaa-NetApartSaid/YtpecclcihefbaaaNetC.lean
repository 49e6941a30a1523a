/- The walks of package net: way, some, Send, Len. -/
import Derived.Test.YtpecclcihefbaaaNetB
set_option linter.unusedVariables false
set_option linter.unusedSimpArgs false
namespace Go.Proofs.Ytpecclcihefbaaa.NetA
open Go.RowKit Go.Proofs.Ytpecclcihefbaaa.B

structure Shape where
  nb : Nat
  ob : Nat
  cap : Nat
  n : Nat
  ib : Nat → Nat
  wb : Nat → Nat → Nat

def Shape.own (σ : Shape) (k : Nat) : Prop := ∃ i j, i < σ.n ∧ j < σ.n ∧ i ≠ j ∧ k = σ.wb i j

abbrev Qs := Nat → Nat → List Tx

structure NetQ (w : World) (σ : Shape) (Q : Qs) : Prop where
  n8 : σ.n ≤ 8
  c0 : w.cell? ⟨σ.nb, 0, none⟩ = some (.slice (some ⟨σ.ob, 0, none⟩) σ.n σ.cap)
  c1 : ∀ i, i < σ.n → w.cell? ⟨σ.ob, i, none⟩ = some (.slice (some ⟨σ.ib i, 0, none⟩) σ.n σ.n)
  c2 : ∀ i j, i < σ.n → j < σ.n → w.cell? ⟨σ.ib i, j, none⟩ = some (.pointer (if i = j then none else some ⟨σ.wb i j, 0, none⟩))
  q : ∀ i j, i < σ.n → j < σ.n → i ≠ j → WayQ w (σ.wb i j) (Q i j)
  apart : ∀ i j k, i < σ.n → j < σ.n → i ≠ j → σ.wb i j ≠ σ.nb ∧ σ.wb i j ≠ σ.ob ∧ (k < σ.n → σ.wb i j ≠ σ.ib k)
  inj : ∀ i j k l, i < σ.n → j < σ.n → i ≠ j → k < σ.n → l < σ.n → k ≠ l → σ.wb i j = σ.wb k l → i = k ∧ j = l

def upd (Q : Qs) (i j : Nat) (q : List Tx) : Qs := fun k l => if k = i ∧ l = j then q else Q k l

theorem NetQ.tch {w w' : World} {σ : Shape} {Q : Qs} (h : NetQ w σ Q) {S : Nat → Prop} (ht : Tch S w w')
    (h1 : ¬ S σ.nb) (h2 : ¬ S σ.ob) (h3 : ∀ i, i < σ.n → ¬ S (σ.ib i)) (h4 : ∀ k, σ.own k → ¬ S k) : NetQ w' σ Q :=
  ⟨h.n8, ht.cell h.c0 h1, fun i hi => ht.cell (h.c1 i hi) h2, fun i j hi hj => ht.cell (h.c2 i j hi hj) (h3 i hi),
    fun i j hi hj hn => (h.q i j hi hj hn).tch ht (h4 _ ⟨i, j, hi, hj, hn, rfl⟩), h.apart, h.inj⟩

/-- One way has turned. -/
theorem NetQ.set {w w' : World} {σ : Shape} {Q : Qs} (h : NetQ w σ Q) {i j : Nat} (hi : i < σ.n) (hj : j < σ.n) (hn : i ≠ j) {q : List Tx}
    (ht : Tch (fun k => k = σ.wb i j) w w') (hq : WayQ w' (σ.wb i j) q) : NetQ w' σ (upd Q i j q) := by
  have ha := fun k => h.apart i j k hi hj hn
  refine ⟨h.n8, ht.cell h.c0 (fun e => (ha 0).1 e.symm), fun k hk => ht.cell (h.c1 k hk) (fun e => (ha 0).2.1 e.symm), fun k l hk hl => ht.cell (h.c2 k l hk hl) (fun e => (ha k).2.2 hk e.symm), ?_, h.apart, h.inj⟩
  intro k l hk hl hkl
  unfold upd
  split
  · rename_i e; obtain ⟨rfl, rfl⟩ := e; exact hq
  · rename_i e
    exact (h.q k l hk hl hkl).tch ht fun e2 => e ⟨(h.inj k l i j hk hl hkl hi hj hn e2).1, (h.inj k l i j hk hl hkl hi hj hn e2).2⟩

theorem Tch.way {w w' : World} {σ : Shape} {i j : Nat} (hi : i < σ.n) (hj : j < σ.n) (hn : i ≠ j) (ht : Tch (fun k => k = σ.wb i j) w w') : Tch σ.own w w' :=
  ht.mono fun k e => ⟨i, j, hi, hj, hn, e⟩

theorem NetQ.same {w : World} {σ : Shape} {Q : Qs} (h : NetQ w σ Q) {i j : Nat} (q : List Tx) (e : q = Q i j) : NetQ w σ (upd Q i j q) := by
  have : upd Q i j q = Q := by
    funext k l; unfold upd; split
    · rename_i h; obtain ⟨rfl, rfl⟩ := h; exact e
    · rfl
  rw [this]; exact h

/-- Is there such a way? -/
def There (n : Nat) (i j : Int) : Prop := (0 ≤ i ∧ i < n) ∧ (0 ≤ j ∧ j < n) ∧ i ≠ j

set_option maxHeartbeats 400000 in
theorem way_in (i j : Nat) (w : World) (σ : Shape) (Q : Qs) (h : NetQ w σ Q) (hi : i < σ.n) (hj : j < σ.n) (hn : i ≠ j) :
    Calls Try.prog 18 #[.pointer (some ⟨σ.nb, 0, none⟩), .int .i64 i, .int .i64 j] w fun e w' => e = .returned (.pointer (some ⟨σ.wb i j, 0, none⟩)) ∧ w = w' := by
  have h0 := h.c0
  have h1 := h.c1 i hi
  have h2 := h.c2 i j hi hj
  rw [if_neg hn] at h2
  have h8 := h.n8
  clear h
  obtain ⟨nb, ob, cap, n, ib, wb⟩ := σ
  simp only at *
  generalize ib i = bi at *
  generalize wb i j = bw at *
  have d1 : decide ((i : Int) < 0) = false := by simp
  have d2 : decide ((j : Int) < 0) = false := by simp
  go_enter Try.func18, Try.ntmps18
  go_wp2
  go_ret
  exact ⟨rfl, rfl⟩

set_option maxHeartbeats 400000 in
theorem way_same (i : Nat) (w : World) (σ : Shape) (Q : Qs) (h : NetQ w σ Q) (hi : i < σ.n) :
    Calls Try.prog 18 #[.pointer (some ⟨σ.nb, 0, none⟩), .int .i64 i, .int .i64 i] w fun e w' => e = .returned (.pointer none) ∧ w = w' := by
  have h0 := h.c0
  have h1 := h.c1 i hi
  have h2 := h.c2 i i hi hi
  rw [if_pos rfl] at h2
  have h8 := h.n8
  clear h
  obtain ⟨nb, ob, cap, n, ib, wb⟩ := σ
  simp only at *
  generalize ib i = bi at *
  have d1 : decide ((i : Int) < 0) = false := by simp
  go_enter Try.func18, Try.ntmps18
  go_wp2
  go_ret
  exact ⟨rfl, rfl⟩

set_option maxHeartbeats 1000000 in
theorem way_out (i j : Int) (w : World) (σ : Shape) (Q : Qs) (h : NetQ w σ Q) (hn : ¬ ((0 ≤ i ∧ i < σ.n) ∧ (0 ≤ j ∧ j < σ.n))) :
    Calls Try.prog 18 #[.pointer (some ⟨σ.nb, 0, none⟩), .int .i64 i, .int .i64 j] w fun e w' => e = .returned (.pointer none) ∧ w = w' := by
  have h0 := h.c0
  have h8 := h.n8
  clear h
  obtain ⟨nb, ob, cap, n, ib, wb⟩ := σ
  simp only at *
  by_cases a1 : i < 0
  · clear hn
    go_enter Try.func18, Try.ntmps18
    go_wp2
    go_ret
    exact ⟨rfl, rfl⟩
  · by_cases a2 : i < n
    · by_cases a3 : j < 0
      · clear hn
        go_enter Try.func18, Try.ntmps18
        go_wp2
        go_ret
        exact ⟨rfl, rfl⟩
      · have a4 : ¬ j < n := fun e => hn ⟨⟨by omega, a2⟩, by omega, e⟩
        clear hn
        go_enter Try.func18, Try.ntmps18
        go_wp2
        go_ret
        exact ⟨rfl, rfl⟩
    · clear hn
      go_enter Try.func18, Try.ntmps18
      go_wp2
      go_ret
      exact ⟨rfl, rfl⟩

/-- No such way. -/
theorem way_none (i j : Int) (w : World) (σ : Shape) (Q : Qs) (h : NetQ w σ Q) (hn : ¬ There σ.n i j) :
    Calls Try.prog 18 #[.pointer (some ⟨σ.nb, 0, none⟩), .int .i64 i, .int .i64 j] w fun e w' => e = .returned (.pointer none) ∧ w = w' := by
  by_cases hr : (0 ≤ i ∧ i < σ.n) ∧ (0 ≤ j ∧ j < σ.n)
  · have e : i = j := Classical.byContradiction fun e => hn ⟨hr.1, hr.2, e⟩
    subst e
    obtain ⟨m, rfl⟩ := Int.eq_ofNat_of_zero_le hr.1.1
    exact way_same m w σ Q h (by omega)
  · exact way_out i j w σ Q h hr

end Go.Proofs.Ytpecclcihefbaaa.NetA
