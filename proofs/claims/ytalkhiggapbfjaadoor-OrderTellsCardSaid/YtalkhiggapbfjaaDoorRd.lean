/- Data that lie in memory, read as Lean values: ints, bools, strings, slices of whatever; opened out of a row's reading. -/
import Derived.Test.YtalkhiggapbfjaaDoorBase
import Derived.ProofKit
import Derived.SliceStrings
import Derived.SizedLaws
set_option linter.unusedVariables false
set_option linter.unusedSimpArgs false
namespace Go.Proofs.YtalkhiggapbfjaaDoor.Rd
open Go.RowKit Go.WideShapes Go.ChangeShapes

/-- All that was to be read is there still. -/
def Keeps (w w' : World) : Prop := ∀ a v, w.cell? a = some v → w'.cell? a = some v
theorem Keeps.refl (w : World) : Keeps w w := fun _ _ h => h
theorem Keeps.trans {a b c : World} (h : Keeps a b) (k : Keeps b c) : Keeps a c := fun x v hx => k x v (h x v hx)
theorem Keeps.of_below {w w' : World} (h : Below w.heap.size w w') : Keeps w w' := fun a v hc => (h.cell (World.block_lt_of_cell? w a hc)).trans hc
theorem Keeps.alloc (w : World) (o : Obj) : Keeps w (w.alloc o) := fun a v hc => (World.cell?_alloc_lt _ _ _ (World.block_lt_of_cell? w a hc)).trans hc
theorem Keeps.drew (w : World) : Keeps w w.drew := fun _ _ h => h

/-- A way of reading: of which cells a value is read. -/
abbrev Rel (α : Type) := World → List Value → α → Prop
def Mono {α : Type} (R : Rel α) : Prop := ∀ w w' cs x, R w cs x → Keeps w w' → R w' cs x

def RInt (k : IntKind) : Rel Int := fun _ cs x => cs = [.int k x] ∧ (Lit.int k x).wf = true
def RBool : Rel Bool := fun _ cs x => cs = [.bool x]
def RStr : Rel ByteArray := fun _ cs x => cs = [.string x] ∧ x.size ≤ 140737488351232
def RSl {α : Type} (size : Nat) (R : Rel α) : Rel (List α) := fun w cs xs =>
  ∃ A cap, cs = [.slice A xs.length cap] ∧ xs.length ≤ cap ∧ cap ≤ 140737488351232 ∧
    (0 < xs.length → ∃ b off, A = some ⟨b, off, none⟩ ∧ ∀ i (h : i < xs.length), ∃ es : List Value, es.length = size ∧ (∀ j, j < size → w.cell? ⟨b, off + i * size + j, none⟩ = es[j]?) ∧ R w es xs[i])

theorem mono_int (k : IntKind) : Mono (RInt k) := fun _ _ _ _ h _ => h
theorem mono_bool : Mono RBool := fun _ _ _ _ h _ => h
theorem mono_str : Mono RStr := fun _ _ _ _ h _ => h
theorem mono_sl {α : Type} {size : Nat} {R : Rel α} (hR : Mono R) : Mono (RSl size R) := by
  rintro w w' cs xs ⟨A, cap, h1, h2, h3, h4⟩ hk
  refine ⟨A, cap, h1, h2, h3, fun h0 => ?_⟩
  obtain ⟨b, off, e, h⟩ := h4 h0
  refine ⟨b, off, e, fun i hi => ?_⟩
  obtain ⟨es, hl, hc, hr⟩ := h i hi
  refine ⟨es, hl, fun j hj => ?_, hR _ _ _ _ hr hk⟩
  have := hc j hj
  rw [List.getElem?_eq_getElem (by omega)] at this ⊢
  exact hk _ _ this

theorem choose_list {α : Type} {p : Nat → α → Prop} : ∀ (n : Nat), (∀ i, i < n → ∃ x, p i x) → ∃ xs : List α, xs.length = n ∧ ∀ i (h : i < xs.length), p i xs[i]
  | 0, _ => ⟨[], rfl, fun i h => absurd h (Nat.not_lt_zero _)⟩
  | n + 1, h => by
    obtain ⟨xs, hl, hx⟩ := choose_list n (fun i hi => h i (by omega))
    obtain ⟨y, hy⟩ := h n (by omega)
    refine ⟨xs ++ [y], by simp [hl], fun i hi => ?_⟩
    simp only [List.length_append, List.length_cons, List.length_nil] at hi
    by_cases e : i < xs.length
    · rw [List.getElem_append_left e]; exact hx i e
    · obtain rfl : i = n := by omega
      rw [List.getElem_append_right (by omega)]
      simpa [hl] using hy

section
variable {H : Type} {enc : TypeId × Value → H} {P : Program} {w : World}
/-- What a type's reading opens to, its weights within the reach. -/
def Opens {α : Type} (enc : TypeId × Value → H) (P : Program) (w : World) (t : TypeId) (R : Rel α) : Prop :=
  ∀ fuel cs y, DataW.trod enc P w 0 (fun _ => true) true fuel t cs = some y → (∀ n ∈ y.1.weights P t, n ≤ reachBytes) → ∃ x, R w cs x

theorem opens_int {t : TypeId} {k : IntKind} (ht : P.underlying t = some (.int k)) : Opens enc P w t (RInt k) := fun fuel cs y h _ => by
  obtain ⟨n, h1, _, h3⟩ := DataW.trod_int ht h
  exact ⟨n, h1, h3⟩
theorem opens_bool {t : TypeId} (ht : P.underlying t = some .bool) : Opens enc P w t RBool := fun fuel cs y h _ => by
  obtain ⟨n, h1, _⟩ := DataW.trod_bool ht h
  exact ⟨n, h1⟩
theorem opens_str {t : TypeId} (ht : P.underlying t = some .string) : Opens enc P w t RStr := fun fuel cs y h hw => by
  obtain ⟨n, h1, rfl, h3⟩ := DataW.trod_string ht h
  refine ⟨n, h1, ?_⟩
  have := hw n.data.toList.length (by simp [DataW.weights])
  simp only [Array.length_toList] at this
  exact this

theorem add_add0 (a : Addr) (i j : Nat) (h : a.spot = none) : (a.add i).add j = ⟨a.block, a.off + i + j, none⟩ := by
  obtain ⟨b, o, s⟩ := a
  simp only at h
  subst h
  unfold Addr.add
  by_cases h1 : i = 0 <;> by_cases h2 : j = 0 <;> simp [h1, h2]

theorem weights_all {t : TypeId} : ∀ {ds : List (DataW H)} {d : DataW H}, d ∈ ds → ∀ n ∈ d.weights P t, n ∈ DataW.weightsAll P t ds
  | d0 :: ds, d, hd, n, hn => by
    simp only [DataW.weightsAll, List.mem_append]
    rcases List.mem_cons.1 hd with e | e
    · exact .inl (e ▸ hn)
    · exact .inr (weights_all e n hn)

theorem opens_sl {α : Type} {t e : TypeId} {size : Nat} {R : Rel α} (ht : P.underlying t = some (.slice e)) (hC : P.cellsOf e = size) (hs : 0 < size) (hB : 0 < P.bytesOf e) (he : Opens enc P w e R) : Opens enc P w t (RSl size R) := by
  intro fuel cs y h hw
  rcases DataW.trod_slice ht h with ⟨rfl, _⟩ | ⟨a, len, cap, elems, rest, n, _, rfl, rfl, _, hl, hm, hlen, hel, hsp, _⟩
  · exact ⟨[], none, 0, rfl, Nat.le_refl _, by omega, fun h => absurd h (Nat.lt_irrefl 0)⟩
  · have hcap : cap ≤ 140737488351232 := by
      have h1 := hw ((elems.length + rest.length) * P.bytesOf e) (by simp [DataW.weights, ht])
      have h2 := (hsp rfl).1
      have h3 : elems.length + rest.length ≤ (elems.length + rest.length) * P.bytesOf e := Nat.le_mul_of_pos_right _ hB
      unfold reachBytes at h1
      omega
    have hwe : ∀ y ∈ elems, ∀ n ∈ y.1.weights P e, n ≤ reachBytes := fun y hy n hn => by
      refine hw n ?_
      simp only [DataW.weights, ht, List.mem_cons, List.mem_append]
      exact .inr (.inl (weights_all (List.mem_map_of_mem hy) n hn))
    have each : ∀ i, i < len → ∃ x, ∃ es : List Value, es.length = size ∧ (∀ j, j < size → w.cell? ((a.add (i * size)).add j) = es[j]?) ∧ R w es x := by
      intro i hi
      have h1 := hel i hi
      rw [hC, List.getElem?_eq_getElem (by omega)] at h1
      obtain ⟨es, hes, htr⟩ := Option.bind_eq_some_iff.1 h1
      obtain ⟨_, h2, h3⟩ := World.cells?_some hes
      obtain ⟨x, hx⟩ := he _ _ _ htr (hwe _ (List.getElem_mem _))
      exact ⟨x, es, h2, h3, hx⟩
    obtain ⟨xs, hxl, hx⟩ := choose_list len each
    subst hxl
    refine ⟨xs, some a, cap, rfl, hl, hcap, fun h0 => ?_⟩
    have hsp : a.spot = none := by
      obtain ⟨es, h1, h2, _⟩ := hx 0 h0
      have := h2 0 hs
      rw [List.getElem?_eq_getElem (by omega)] at this
      have e : (a.add (0 * size)).add 0 = a := by simp [Addr.add]
      rw [e] at this
      exact World.cell?_spot this
    refine ⟨a.block, a.off, by obtain ⟨b, o, s⟩ := a; simp only at hsp; rw [hsp], fun i hi => ?_⟩
    obtain ⟨es, h1, h2, h3⟩ := hx i hi
    refine ⟨es, h1, fun j hj => ?_, h3⟩
    rw [← add_add0 a _ _ hsp]
    exact h2 j hj

/-- A struct, field by field: field i's reading, its weights within the reach. -/
theorem struct_fields {t : TypeId} {fs : Array Field} {fuel : Nat} {cs : List Value} {y : DataW H × List MemPlace} (ht : P.underlying t = some (.struct fs))
    (h : DataW.trod enc P w 0 (fun _ => true) true fuel t cs = some y) (hw : ∀ n ∈ y.1.weights P t, n ≤ reachBytes) :
    cs.length = P.cellsOf t ∧ ∀ (α : Type) (i : Nat) (f : Field) (R : Rel α), fs[i]? = some f → Opens enc P w f.type R → ∃ x, R w ((cs.drop f.offset).take (P.cellsOf f.type)) x := by
  obtain ⟨xs, n, _, rfl, hl, hxl, hf⟩ := DataW.trod_struct ht h
  refine ⟨hl, fun α i f R hi ho => ?_⟩
  have hil : i < xs.length := by
    rw [hxl]
    exact (Array.getElem?_eq_some_iff.1 hi).1
  have h1 := hf i f hi
  rw [List.getElem?_eq_getElem hil] at h1
  refine ho _ _ _ h1 fun m hm => hw m ?_
  simp only [DataW.weights, ht]
  exact DataW.weights_mem_each (j := i) (t := f.type) (d := xs[i].1) (by simp [List.getElem?_map, Array.getElem?_toList, hi]) (by simp [List.getElem?_map, List.getElem?_eq_getElem hil]) m hm

/-- An argument. -/
theorem open_arg {α : Type} {t : TypeId} {R : Rel α} {v : Value} {d : DataW H} {ps : List MemPlace} (ho : Opens enc P w t R) (h : DataW.Trod enc P w 0 (fun _ => true) true t v d ps) (hw : ∀ n ∈ d.weights P t, n ≤ reachBytes) : ∃ x, R w v.cells.toList x := by
  obtain ⟨fuel, hf⟩ := h
  exact ho _ _ _ hf hw
theorem open_sl_arg {α : Type} {t e : TypeId} {size : Nat} {R : Rel α} {base : Nat} {v : Value} {d : DataW H} {ps : List MemPlace} (ht : P.underlying t = some (.slice e)) (hv : Value.okWide P w .any base t v)
    (ho : Opens enc P w t (RSl size R)) (h : DataW.Trod enc P w 0 (fun _ => true) true t v d ps) (hw : ∀ n ∈ d.weights P t, n ≤ reachBytes) : ∃ xs, RSl size R w [v] xs := by
  obtain ⟨A, len, cap, rfl⟩ := okWide_slice ht hv
  exact open_arg ho h hw
/-- The weights of argument j. -/
theorem arg_weights {ts : List TypeId} {ds : List (DataW H)} (h : (DataW.weightsEach P ts ds).all (· ≤ reachBytes) = true) {j : Nat} {t : TypeId} {d : DataW H} (ht : ts[j]? = some t) (hd : ds[j]? = some d) : ∀ n ∈ d.weights P t, n ≤ reachBytes :=
  fun n hn => by simpa using List.all_eq_true.1 h _ (DataW.weights_mem_each ht hd n hn)
end

/-- A slice's element. -/
theorem sl_at {α : Type} {size : Nat} {R : Rel α} {w : World} {A : Option Addr} {len cap : Nat} {xs : List α} (h : RSl size R w [.slice A len cap] xs) : len = xs.length ∧ len ≤ cap ∧ cap ≤ 140737488351232 ∧
    (0 < len → ∃ b off, A = some ⟨b, off, none⟩ ∧ ∀ i (hi : i < xs.length), ∃ es : List Value, es.length = size ∧ (∀ j, j < size → w.cell? ⟨b, off + i * size + j, none⟩ = es[j]?) ∧ R w es xs[i]) := by
  obtain ⟨A', cap', e, h1, h2, h3⟩ := h
  injection e with e
  injection e with e1 e2 e3
  subst e1; subst e2; subst e3
  exact ⟨rfl, h1, h2, h3⟩
theorem sl_form {α : Type} {size : Nat} {R : Rel α} {w : World} {v : Value} {xs : List α} (h : RSl size R w [v] xs) : ∃ A cap, v = .slice A xs.length cap := by
  obtain ⟨A', cap', e, _⟩ := h
  injection e with e
  exact ⟨A', cap', e⟩

end Go.Proofs.YtalkhiggapbfjaaDoor.Rd
