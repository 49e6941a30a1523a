/- Arguments opened: a slice of strings. -/
import Derived.Test.YtpecclcihefbaaaBase
import Derived.ProofKit
import Derived.SliceStrings
set_option linter.unusedVariables false
set_option linter.unusedSimpArgs false
namespace Go.Proofs.Ytpecclcihefbaaa.Args
open Go.RowKit Go.WideShapes Go.ChangeShapes

/-- A slice of strings as it lies in memory. -/
structure StrRow (w : World) (A : Option Addr) (len cap : Nat) (ss : List ByteArray) : Prop where
  lc : len ≤ cap
  cm : cap ≤ maxLen
  ls : len ≤ ss.length
  sz : ∀ s ∈ ss, s.size ≤ maxLen
  cells : 0 < len → ∃ b off, A = some ⟨b, off, none⟩ ∧ ∀ j, j < len → w.cell? ⟨b, off + j, none⟩ = some (.string (ss.getD j ByteArray.empty))

theorem addr_plain {w : World} {a : Addr} {v : Value} (h : w.cell? (a.add 0) = some v) : a = ⟨a.block, a.off, none⟩ := by
  have : a.add 0 = a := by simp [Addr.add]
  rw [this] at h
  have := World.cell?_spot h
  obtain ⟨b, o, s⟩ := a
  simp only at this
  rw [this]
theorem add_at (b off j : Nat) : (⟨b, off, none⟩ : Addr).add j = ⟨b, off + j, none⟩ := by
  unfold Addr.add
  split
  · rename_i h; rw [h]; rfl
  · rfl

theorem strs_open {H : Type} {enc : TypeId × Value → H} {P : Program} {w : World} {base : Nat} {t e : TypeId} {v : Value} {d : DataW H} {ps : List MemPlace}
    (ht : P.underlying t = some (.slice e)) (he : P.underlying e = some .string) (hc : P.cellsOf e = 1)
    (hv : Value.okWide P w .any base t v) (h : DataW.Trod enc P w 0 (fun _ => true) true t v d ps) :
    ∃ A len cap ss, v = .slice A len cap ∧ StrRow w A len cap ss := by
  obtain ⟨A, len, cap, rfl⟩ := okWide_slice ht hv
  obtain ⟨fuel, hf⟩ := h
  refine ⟨A, len, cap, ?_⟩
  rcases open_strings ht he hc hf with ⟨hcs, _⟩ | ⟨a, l, c, ss, hcs, _, hl, hm, hz, _, hcell, hws⟩
  · simp [Value.cells] at hcs
    obtain ⟨rfl, rfl, rfl⟩ := hcs
    exact ⟨[], rfl, by omega, by simp [maxLen], by simp, by simp, fun h => absurd h (by omega)⟩
  · simp [Value.cells] at hcs
    obtain ⟨rfl, rfl, rfl⟩ := hcs
    simp only [if_true] at hz
    refine ⟨ss, rfl, hl, hm, by omega, hws, fun h0 => ?_⟩
    have e := addr_plain (hcell 0 (by omega))
    refine ⟨a.block, a.off, by rw [← e], fun j hj => ?_⟩
    rw [← add_at, ← e]
    exact hcell j (by omega)

end Go.Proofs.Ytpecclcihefbaaa.Args
