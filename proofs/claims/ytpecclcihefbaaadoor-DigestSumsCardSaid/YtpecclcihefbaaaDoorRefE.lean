/- The reference's primes, and the tables: the plain law. -/
import Derived.Test.YtpecclcihefbaaaDoorRefD
import Derived.Test.YtpecclcihefbaaaDoorShaK
set_option linter.unusedVariables false
namespace Go.Proofs.YtpecclcihefbaaaDoor.Ref

def pstep (l : List Nat) (k : Nat) : List Nat := if l.any (fun d => k % d == 0) then l else l ++ [k]
/-- The primes below t + 2. -/
def pst : Nat → List Nat
  | 0 => []
  | t + 1 => pstep (pst t) (t + 2)
theorem pst_small : ∀ t, ∀ d ∈ pst t, 2 ≤ d ∧ d < t + 2
  | 0, d, h => absurd h (by simp [pst])
  | t + 1, d, h => by
    rw [pst, pstep] at h
    split at h
    · have := pst_small t d h; omega
    · rcases List.mem_append.1 h with h | h
      · have := pst_small t d h; omega
      · rw [List.mem_singleton] at h; omega
theorem pst_mono : ∀ t u, t ≤ u → (pst t).length ≤ (pst u).length
  | t, 0, h => by obtain rfl : t = 0 := by omega
                  exact Nat.le_refl _
  | t, u + 1, h => by
    by_cases e : t = u + 1
    · subst e; exact Nat.le_refl _
    · have := pst_mono t u (by omega)
      rw [pst, pstep]
      split
      · exact this
      · simp; omega
theorem pst8 : (pst 17).length < 8 ∧ (pst 18).length = 8 := by decide +kernel
theorem pst64 : (pst 309).length < 64 ∧ (pst 310).length = 64 := by decide +kernel
def tab (n t q : Nat) : List (BitVec 32) := (pst t).map fun p => BitVec.ofNat 32 (rootN p q)
theorem tabH : tab 8 18 2 = Sha.H0 := by decide +kernel
theorem tabK : tab 64 310 3 = Sha.K := by decide +kernel

end Go.Proofs.YtpecclcihefbaaaDoor.Ref
