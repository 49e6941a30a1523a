/- The walk of net.All. -/
import Derived.Test.YtpecclcihefbaaaNetF
set_option linter.unusedVariables false
set_option linter.unusedSimpArgs false
namespace Go.Proofs.Ytpecclcihefbaaa.NetA
open Go.RowKit Go.Proofs.Ytpecclcihefbaaa.B

def lenOf (Q : Qs) (i j : Nat) : Nat := if i = j then 0 else (Q i j).length
def rowSum (Q : Qs) (i : Nat) : Nat → Nat
  | 0 => 0
  | j + 1 => rowSum Q i j + lenOf Q i j
def allSum (Q : Qs) (n : Nat) : Nat → Nat
  | 0 => 0
  | i + 1 => allSum Q n i + rowSum Q i n

theorem len_any (i j : Nat) (w : World) (σ : Shape) (Q : Qs) (h : NetQ w σ Q) (hi : i < σ.n) (hj : j < σ.n) :
    Calls Try.prog 10 #[.pointer (some ⟨σ.nb, 0, none⟩), .int .i64 i, .int .i64 j] w fun e w' => e = .returned (.int .i64 (lenOf Q i j)) ∧ w = w' := by
  by_cases e : i = j
  · subst e
    have := len_none i i w σ Q h (fun ht => ht.2.2 rfl)
    simpa [lenOf] using this
  · have := len_in i j w σ Q h hi hj e
    simpa [lenOf, e] using this

theorem rowSum_le {w : World} {σ : Shape} {Q : Qs} (h : NetQ w σ Q) (i : Nat) (hi : i < σ.n) : ∀ j, j ≤ σ.n → rowSum Q i j ≤ 200 * j
  | 0, _ => Nat.le_refl _
  | j + 1, hj => by
    have := rowSum_le h i hi j (by omega)
    have h2 : lenOf Q i j ≤ 200 := by
      unfold lenOf
      split
      · omega
      · exact (h.q i j hi (by omega) ‹_›).le
    simp only [rowSum]; omega
theorem allSum_le {w : World} {σ : Shape} {Q : Qs} (h : NetQ w σ Q) : ∀ i, i ≤ σ.n → allSum Q σ.n i ≤ 1600 * i
  | 0, _ => Nat.le_refl _
  | i + 1, hi => by
    have := allSum_le h i (by omega)
    have h2 := rowSum_le h i (by omega) σ.n (Nat.le_refl _)
    have := h.n8
    simp only [allSum]; omega

set_option maxHeartbeats 1000000 in
theorem all_any (w : World) (σ : Shape) (Q : Qs) (h : NetQ w σ Q) :
    Calls Try.prog 11 #[.pointer (some ⟨σ.nb, 0, none⟩)] w fun e w' => e = .returned (.int .i64 (allSum Q σ.n σ.n)) ∧ w = w' := by
  have C := Lib.hid (fun i j hi hj => len_any i j w σ Q h hi hj)
  have hr := Lib.hid (fun i hi => rowSum_le h i hi)
  have ha := Lib.hid (allSum_le h)
  have h0 := h.c0
  have h8 := h.n8
  clear h
  obtain ⟨nb, ob, cap, n, ib, wb⟩ := σ
  simp only at *
  go_enter Try.func11, Try.ntmps11
  go_wp2
  go_loop [3, 13] (fun t i => ∃ k : Nat, k ≤ n ∧ i = .int .i64 k ∧ t = .int .i64 (allSum Q n k)) (fun t i => n - (intOf i).toNat)
  case atStart => exact ⟨0, by omega, rfl, rfl⟩
  case round =>
    obtain ⟨k, hk, rfl, rfl⟩ := hrel
    by_cases hlt : k < n
    · have hb := ha.out k hk
      go_wp2
      go_loop [3, 21] (fun t i => ∃ j : Nat, j ≤ n ∧ i = .int .i64 j ∧ t = .int .i64 (allSum Q n k + rowSum Q k j : Nat)) (fun t i => n - (intOf i).toNat)
      case atStart => exact ⟨0, by omega, rfl, rfl⟩
      case round =>
        obtain ⟨j, hj, rfl, rfl⟩ := hrel
        by_cases hjl : j < n
        · have hb2 := hr.out k hlt j hj
          have hC := Lib.hid (C.out k j hlt hjl)
          have hl : lenOf Q k j ≤ 1600 := by
            have := hr.out k hlt (j + 1) (by omega)
            simp only [rowSum] at this; omega
          go_wp2_with (go_at_call 10; refine (hC.out).mono ?_; rintro e w' ⟨rfl, rfl⟩)
          go_round
          case rel => exact ⟨j + 1, by omega, by go_num, by simp only [rowSum]; congr 1; omega⟩
          case measure => simp [intOf]; omega
        · obtain rfl : j = n := by omega
          go_wp2
          go_round
          case rel => exact ⟨k + 1, by omega, by go_num, by simp only [allSum]⟩
          case measure => simp [intOf]; omega
    · obtain rfl : k = n := by omega
      go_wp2
      go_ret
      exact ⟨rfl, rfl⟩

end Go.Proofs.Ytpecclcihefbaaa.NetA
