/- The methods of order's ready behind an interface. -/
import Derived.Test.YtalkhiggapbfjaaDoorBase
import Derived.Test.YtalkhiggapbfjaaDoorProg
set_option linter.unusedVariables false
set_option linter.unusedSimpArgs false
set_option maxRecDepth 100000
namespace Go.Proofs.YtalkhiggapbfjaaDoor.Hp
open Go Go.RowKit Go.Proofs.YtalkhiggapbfjaaDoor.B
/-- A method with a value receiver, of a pointer behind an interface: the receiver is what lies there. -/
theorem meth_val {P : Program} {T elem : TypeId} {name : String} {n b f : Nat} {v : Value} {w : World} (info : TypeInfo) (m : _) (hi : P.info? T = some info) (hm : info.methods.find? (fun x => x.name == name) = some m) (hp : m.path = #[]) (hf : m.func = some (f, false)) (hu : P.underlying T = some (.pointer elem))
    (hl : (loadVar elem ⟨b, 0, none⟩).run P w = .ok v w) : (method (n + 1) T (.pointer (some ⟨b, 0, none⟩)) name).run P w = .ok (f, v) w := by
  unfold method
  have h1 : (typeInfo T).run P w = .ok info w := run_typeInfo _ hi
  have h2 : ∀ (nm : String) (p : Addr), (Builtin.ssaWrapNilChk_ #[T] T #[.pointer (some p), strVal "", strVal nm]).run P w = .ok (.pointer (some p)) w := fun _ _ => rfl
  simp [h1, hm, hp, hf, follow, receiverAt, run_underlying hu, Place.get, h2, asAddr, hl, Result.andThen]
theorem nil_less (a : Addr) (w : World) : (nilAhead 270 52 (.pointer (some a)) "Less").run Tryd.prog w = .ok (some false) w := by kernel_rfl
theorem meth_push (a : Addr) (w : World) : (method 270 52 (.pointer (some a)) "Push").run Tryd.prog w = .ok (94, .pointer (some a)) w := by kernel_rfl
theorem meth_pop (a : Addr) (w : World) : (method 270 52 (.pointer (some a)) "Pop").run Tryd.prog w = .ok (93, .pointer (some a)) w := by kernel_rfl
theorem load_ready (b : Nat) (v : Value) (w : World) (h : w.cell? ⟨b, 0, none⟩ = some v) : (loadVar 53 ⟨b, 0, none⟩).run Tryd.prog w = .ok v w := by
  unfold loadVar
  go_simp
theorem info_ready (name : String) (f : Nat) (h : ((Tryd.prog.info? 52).bind fun i => (i.methods.find? (fun x => x.name == name)).map fun m => (m.path.toList.length, m.func)) = some (0, some (f, false))) : ∃ info m, Tryd.prog.info? 52 = some info ∧ info.methods.find? (fun x => x.name == name) = some m ∧ m.path = #[] ∧ m.func = some (f, false) := by
  cases hi : Tryd.prog.info? 52 with
  | none => rw [hi] at h; cases h
  | some info =>
    rw [hi, Option.bind_some] at h
    cases hm : info.methods.find? (fun x => x.name == name) with
    | none => rw [hm] at h; cases h
    | some m =>
      rw [hm, Option.map_some] at h
      simp only [Option.some.injEq, Prod.mk.injEq] at h
      exact ⟨info, m, rfl, hm, Array.eq_empty_of_size_eq_zero (by simpa using h.1), h.2⟩
theorem meth_ready {name : String} {f b : Nat} {v : Value} {w : World} (h : ((Tryd.prog.info? 52).bind fun i => (i.methods.find? (fun x => x.name == name)).map fun m => (m.path.toList.length, m.func)) = some (0, some (f, false)))
    (hc : w.cell? ⟨b, 0, none⟩ = some v) : (method (270) 52 (.pointer (some ⟨b, 0, none⟩)) name).run Tryd.prog w = .ok (f, v) w := by
  obtain ⟨info, m, h1, h2, h3, h4⟩ := info_ready name f h
  exact meth_val (n := 270 - 1) info m h1 h2 h3 h4 Tryd.underlying52 (load_ready b v w hc)
theorem meth_less {b : Nat} {v : Value} {w : World} (hc : w.cell? ⟨b, 0, none⟩ = some v) : (method 270 52 (.pointer (some ⟨b, 0, none⟩)) "Less").run Tryd.prog w = .ok (92, v) w := meth_ready (by kernel_rfl) hc
theorem meth_len {b : Nat} {v : Value} {w : World} (hc : w.cell? ⟨b, 0, none⟩ = some v) : (method 270 52 (.pointer (some ⟨b, 0, none⟩)) "Len").run Tryd.prog w = .ok (22, v) w := meth_ready (by kernel_rfl) hc
theorem meth_swap {b : Nat} {v : Value} {w : World} (hc : w.cell? ⟨b, 0, none⟩ = some v) : (method 270 52 (.pointer (some ⟨b, 0, none⟩)) "Swap").run Tryd.prog w = .ok (95, v) w := meth_ready (by kernel_rfl) hc
end Go.Proofs.YtalkhiggapbfjaaDoor.Hp
