/- A world in which the listed plain variables and errors.errorType hold what is listed: the witness of a row that lists a handle; and what such a row's premise says of errors.errorType. -/
import Derived.Test.YtalkhiggapbfjaaDoorCardW
import Derived.Test.YtalkhiggapbfjaaDoorErrB
import Derived.Lay
import Derived.LaidHandle
import Derived.LaidLaws
namespace Go.Proofs.YtalkhiggapbfjaaDoor.CardW
open Go
noncomputable def held (P : Program) (os : Os) (g : Nat) (v : Value) : World :=
  let w0 := World.holding P os ⟨#[], #[], []⟩
  { w0 with heap := w0.heap.modify g fun
      | .cells _ t fr => .cells #[v] t fr
      | o => o }
noncomputable def laidH (P : Program) (os : Os) (g : Nat) (v : Value) (laid : List (String × DataW Unit)) : World := (held P os g v).layVars P laid
theorem laidH_os (P : Program) (os : Os) (g : Nat) (v : Value) (laid : List (String × DataW Unit)) : (laidH P os g v laid).os = os := World.layVars_os _ _ _
theorem laidMet_laidH {P : Program} {w0 : World} {laid : List (String × DataW Unit)} (args : Array Value)
    (hf : w0.layFits P laid [] = true) (hi : w0.layIfaces P laid (w0.layVars P laid) = true) :
    laidMet P laid ((w0.layVars P laid).forCall (fun _ _ => 0) ⟨#[], args, []⟩).memory := by
  have e1 : (laid.filter fun x => (laid.map (·.1)).contains x.1) = laid := List.filter_eq_self.2 fun x hx => List.contains_iff_mem.2 (List.mem_map.2 ⟨x, hx, rfl⟩)
  have e2 : (laid.filter fun x => !(laid.map (·.1)).contains x.1) = [] := List.filter_eq_nil_iff.2 fun x hx => by rw [List.contains_iff_mem.2 (List.mem_map.2 ⟨x, hx, rfl⟩)]; simp
  have h : laidMet P laid (w0.layVars P laid) := laidMet_layVars (w0 := w0) (laid.map (·.1)) [] (by rw [e1]) (by rw [e1]; exact hf) (by rw [e1]; exact hi) (by rw [e2]; exact LaidIn.none)
  exact h.of_heap (by simp [World.memory, World.forCall, Input.heap])
theorem et : Tryd.prog.globalNamed "errors.errorType" = some 0 := by kernel_rfl
theorem rt : (Tryd.prog.cutTypes.find? (·.1 == "internal/reflectlite.rtype")).map (·.2) = some 113 := by kernel_rfl
theorem oneRow : ((List.range (270 - 100)).filter fun t => Tryd.prog.rowNamed t [101, 114, 114, 111, 114]) = [32] := by kernel_rfl
theorem size : Tryd.prog.types.size = 270 - 100 := by kernel_rfl
/-- What the listed handle gives a walk: the variable's one cell. -/
theorem errT {W : World} {laid : List (String × DataW Unit)} (hm : ("errors.errorType", .iface "internal/reflectlite.rtype" (.agg [.ptr (.lit (.string [101, 114, 114, 111, 114]))])) ∈ laid) (h : laidMetH Tryd.prog laid W) : Err.ErrT W := by
  have hx : handlesMet Tryd.prog (laid.filter fun x => x.2.handleName?.isSome) W := by
    have hin : ("errors.errorType", .iface "internal/reflectlite.rtype" (.agg [.ptr (.lit (.string [101, 114, 114, 111, 114]))])) ∈ laid.filter fun x => x.2.handleName?.isSome := List.mem_filter.2 ⟨hm, rfl⟩
    unfold laidMetH at h
    generalize (laid.filter fun x => x.2.handleName?.isSome) = fl at h hin
    cases fl with
    | nil => cases hin
    | cons a r => exact h.2
  obtain ⟨name, u, ty, e1, e2, e3, e4, e5⟩ := hx _ (List.mem_filter.2 ⟨hm, rfl⟩)
  have en : name = [101, 114, 114, 111, 114] := (Option.some.inj e1).symm
  subst en
  obtain rfl := Option.some.inj (rt.symm.trans e2)
  have hm : ty ∈ (List.range (270 - 100)).filter fun t => Tryd.prog.rowNamed t [101, 114, 114, 111, 114] := List.mem_filter.2 ⟨List.mem_range.2 (by rw [← size]; exact e3), e4⟩
  rw [oneRow] at hm
  obtain rfl := List.mem_singleton.1 hm
  have hh : typeHandle Tryd.prog 32 = .pointer (some ⟨1, 32, none⟩) := by kernel_rfl
  rw [hh] at e5
  unfold Err.ErrT
  simpa using World.var?_cell et e5 0
end Go.Proofs.YtalkhiggapbfjaaDoor.CardW
