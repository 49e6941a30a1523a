/- A set of patches that came in, read as a Lean value. -/
import Derived.Test.YtalkhiggapbfjaaDoorOrM
import Derived.Test.YtalkhiggapbfjaaDoorRd
set_option linter.unusedVariables false
set_option linter.unusedSimpArgs false
namespace Go.Proofs.YtalkhiggapbfjaaDoor.Orp
open Go Go.RowKit Go.WideShapes Go.ChangeShapes Go.Proofs.YtalkhiggapbfjaaDoor.B
theorem at_field {l : List Value} {k n : Nat} {x : Value} (h : (l.drop k).take n = [x]) : l[k]? = some x := by
  have e := congrArg (fun L => L[0]?) h
  simp only [List.getElem?_cons_zero, List.getElem?_take, List.getElem?_drop, Nat.add_zero] at e
  split at e
  · exact e
  · cases e
theorem tat_of_rsl {w : World} {A : Option Addr} {n c : Nat} {xs : List ByteArray} (h : Rd.RSl 1 Rd.RStr w [.slice A n c] xs) : n = xs.length ∧ TAt w A c xs := by
  obtain ⟨h1, h2, h3, h4⟩ := Rd.sl_at h
  subst h1
  refine ⟨rfl, h2, by omega, fun x hx => ?_, fun h0 => ?_⟩
  · obtain ⟨i, hi, rfl⟩ := List.mem_iff_getElem.1 hx
    obtain ⟨b, off, _, hc⟩ := h4 (by omega)
    obtain ⟨es, _, _, e3⟩ := hc i hi
    exact e3.2
  · obtain ⟨b, off, rfl, hc⟩ := h4 h0
    refine ⟨b, off, rfl, fun j hj => ?_⟩
    obtain ⟨es, e1, e2, e3, _⟩ := hc j hj
    have := e2 0 (by omega)
    rw [e3] at this
    rw [List.getD_eq_getElem?_getD, List.getElem?_eq_getElem hj]
    simpa using this
/-- A slice of which no more is asked than where it lies. -/
def RSh : Rd.Rel (Option Addr × Nat × Nat) := fun _ cs x => cs = [.slice x.1 x.2.1 x.2.2]
theorem opens_sh {H : Type} {enc : TypeId × Value → H} {P : Program} {w : World} {t e : TypeId} (ht : P.underlying t = some (.slice e)) : Rd.Opens enc P w t RSh := by
  intro fuel cs y h hw
  rcases DataW.trod_slice ht h with ⟨rfl, _⟩ | ⟨a, len, cap, elems, rest, n, _, rfl, rfl, _⟩
  · exact ⟨(none, 0, 0), rfl⟩
  · exact ⟨(some a, len, cap), rfl⟩
def RPa : Rd.Rel Nx := fun w cs x => cs = [.string x.note, .slice x.D x.deps.length x.dc, .slice x.O x.on x.oc] ∧ TAt w x.D x.dc x.deps
def RNx : Rd.Rel Nx := fun w cs x => cs = x.cells.toList ∧ x.nm.size ≤ 140737488351232 ∧ TAt w x.D x.dc x.deps
set_option maxRecDepth 100000 in
theorem opens_pa {H : Type} {enc : TypeId × Value → H} (w : World) : Rd.Opens enc Tryd.prog w 28 RPa := by
  intro fuel cs y h hw
  obtain ⟨hl, S⟩ := Rd.struct_fields Tryd.underlying28 h hw
  have oS : Rd.Opens enc Tryd.prog w 9 Rd.RStr := Rd.opens_str Tryd.underlying9
  have oL : Rd.Opens enc Tryd.prog w 25 (Rd.RSl 1 Rd.RStr) := Rd.opens_sl (size := 1) Tryd.underlying25 (by kernel_rfl) (by omega) (of_decide_eq_true (by kernel_rfl)) oS
  have oO : Rd.Opens enc Tryd.prog w 26 RSh := opens_sh Tryd.underlying26
  obtain ⟨note, e0, _⟩ := S ByteArray 0 _ Rd.RStr rfl oS
  obtain ⟨deps, h1⟩ := S (List ByteArray) 1 _ (Rd.RSl 1 Rd.RStr) rfl oL
  obtain ⟨⟨O, on, oc⟩, e2⟩ := S _ 2 _ RSh rfl oO
  have h1' := h1
  obtain ⟨D, dc, e1, _⟩ := h1'
  rw [e1] at h1
  obtain ⟨_, hD⟩ := tat_of_rsl h1
  have f0 : cs[0]? = _ := at_field e0
  have f1 : cs[1]? = _ := at_field e1
  have f2 : cs[2]? = _ := at_field e2
  have h3 : cs.length = 3 := hl.trans (by kernel_rfl)
  refine ⟨⟨⟨#[]⟩, note, deps, D, dc, O, on, oc⟩, ?_, hD⟩
  match cs, h3 with
  | [c0, c1, c2], _ =>
    simp only [List.getElem?_cons_zero, List.getElem?_cons_succ, Option.some.injEq] at f0 f1 f2
    subst f0 f1 f2
    rfl
set_option maxRecDepth 100000 in
theorem opens_nx {H : Type} {enc : TypeId × Value → H} (w : World) : Rd.Opens enc Tryd.prog w 30 RNx := by
  intro fuel cs y h hw
  obtain ⟨hl, S⟩ := Rd.struct_fields Tryd.underlying30 h hw
  obtain ⟨nm, e0, hs⟩ := S ByteArray 0 _ Rd.RStr rfl (Rd.opens_str Tryd.underlying9)
  obtain ⟨x, e1, hD⟩ := S Nx 1 _ RPa rfl (opens_pa w)
  have h4 : cs.length = 4 := hl.trans (by kernel_rfl)
  have f0 : cs[0]? = _ := at_field e0
  have k3 : Tryd.prog.cellsOf 28 = 3 := by kernel_rfl
  refine ⟨⟨nm, x.note, x.deps, x.D, x.dc, x.O, x.on, x.oc⟩, ?_, hs, hD⟩
  match cs, h4 with
  | [c0, c1, c2, c3], _ =>
    have e1' : ([c0, c1, c2, c3].drop 1).take (Tryd.prog.cellsOf 28) = _ := e1
    rw [k3] at e1'
    simp only [List.drop_succ_cons, List.drop_zero, List.take_succ_cons, List.take_zero, List.cons.injEq, and_true] at e1'
    simp only [List.getElem?_cons_zero, Option.some.injEq] at f0
    obtain ⟨rfl, rfl, rfl⟩ := e1'
    subst f0
    rfl
set_option maxRecDepth 100000
theorem set_open {H : Type} {enc : TypeId × Value → H} (v : Value) {d : DataW H} {ps : List MemPlace} (w : World) {base : Nat}
    (hv : Value.okWide Tryd.prog w .any base 22 v) (h : DataW.Trod enc Tryd.prog w 0 (fun _ => true) true 22 v d ps) (hw : ∀ n ∈ d.weights Tryd.prog 22, n ≤ reachBytes) :
    ∃ A c zs, v = .slice A zs.length c ∧ SetAt w A c zs := by
  have o : Rd.Opens enc Tryd.prog w 22 (Rd.RSl 4 RNx) := Rd.opens_sl (size := 4) Tryd.underlying22 (by kernel_rfl) (by omega) (of_decide_eq_true (by kernel_rfl)) (opens_nx w)
  obtain ⟨zs, A, c, e, h1, h2, h3⟩ := Rd.open_sl_arg Tryd.underlying22 hv o h hw
  simp only [List.cons.injEq, and_true] at e
  refine ⟨A, c, zs, e, h1, by omega, fun h0 => ?_, fun z hz => ?_⟩
  · obtain ⟨b, off, rfl, hc⟩ := h3 h0
    refine ⟨b, off, rfl, fun j hj i hi => ?_⟩
    obtain ⟨es, e1, e2, e3, _⟩ := hc j hj
    rw [e2 i hi, e3, Array.getElem?_toList]
  · obtain ⟨i, hi, rfl⟩ := List.mem_iff_getElem.1 hz
    obtain ⟨b, off, _, hc⟩ := h3 (by omega)
    obtain ⟨es, _, _, e3⟩ := hc i hi
    exact e3.2
end Go.Proofs.YtalkhiggapbfjaaDoor.Orp
