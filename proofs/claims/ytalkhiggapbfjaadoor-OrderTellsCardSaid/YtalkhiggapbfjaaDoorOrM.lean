/- Sets of patches that lie in memory: their names and what they need. -/
import Derived.Test.YtalkhiggapbfjaaDoorStr
import Derived.Test.YtalkhiggapbfjaaDoorOrR
import Derived.Test.YtalkhiggapbfjaaDoorMap
set_option linter.unusedVariables false
set_option linter.unusedSimpArgs false
namespace Go.Proofs.YtalkhiggapbfjaaDoor.Orp
open Go Go.RowKit Go.Proofs.YtalkhiggapbfjaaDoor.B Go.Proofs.YtalkhiggapbfjaaDoor.St Go.Proofs.YtalkhiggapbfjaaDoor.Mp
/-- A row of texts that came in. -/
def TAt (w : World) (A : Option Addr) (c : Nat) (l : List ByteArray) : Prop := l.length ≤ c ∧ l.length ≤ 140737488351232 ∧ (∀ x ∈ l, x.size ≤ 140737488351232) ∧
  (0 < l.length → ∃ b o, A = some ⟨b, o, none⟩ ∧ ∀ j, j < l.length → w.cell? ⟨b, o + j, none⟩ = some (.string (l.getD j ByteArray.empty)))
theorem TAt.below {w w' : World} {A : Option Addr} {c : Nat} {l : List ByteArray} (h : TAt w A c l) (hb : Below w.heap.size w w') : TAt w' A c l := by
  obtain ⟨h1, h2, h3, h4⟩ := h
  refine ⟨h1, h2, h3, fun h0 => ?_⟩
  obtain ⟨b, o, e, hc⟩ := h4 h0
  exact ⟨b, o, e, fun j hj => (hb.cell (World.block_lt_of_cell? w _ (hc j hj))).trans (hc j hj)⟩
/-- A named patch: its name, its note, what it needs and where that lies, its ops. -/
structure Nx where
  nm : ByteArray
  note : ByteArray
  deps : List ByteArray
  D : Option Addr
  dc : Nat
  O : Option Addr
  on : Nat
  oc : Nat
def Nx.cells (x : Nx) : Array Value := #[.string x.nm, .string x.note, .slice x.D x.deps.length x.dc, .slice x.O x.on x.oc]
def Nx.nd (x : Nx) : Nd ByteArray := ⟨x.nm, x.deps⟩
def SetAt (w : World) (A : Option Addr) (c : Nat) (zs : List Nx) : Prop := zs.length ≤ c ∧ zs.length ≤ 140737488351232 ∧
  (0 < zs.length → ∃ b o, A = some ⟨b, o, none⟩ ∧ ∀ j (h : j < zs.length), ∀ i, i < 4 → w.cell? ⟨b, o + j * 4 + i, none⟩ = (zs[j].cells)[i]?) ∧ ∀ z ∈ zs, z.nm.size ≤ 140737488351232 ∧ TAt w z.D z.dc z.deps
theorem nx_some (x : Nx) (i : Nat) (h : i < 4) : ∃ v, (x.cells)[i]? = some v := ⟨(x.cells)[i]'(by show i < 4; exact h), Array.getElem?_eq_getElem _⟩
theorem SetAt.below {w w' : World} {A : Option Addr} {c : Nat} {zs : List Nx} (h : SetAt w A c zs) (hb : Below w.heap.size w w') : SetAt w' A c zs := by
  obtain ⟨h1, h2, h3, h4⟩ := h
  refine ⟨h1, h2, fun h0 => ?_, fun z hz => ⟨(h4 z hz).1, (h4 z hz).2.below hb⟩⟩
  obtain ⟨b, o, e, hc⟩ := h3 h0
  refine ⟨b, o, e, fun j hj i hi => ?_⟩
  obtain ⟨v, hv⟩ := nx_some zs[j] i hi
  have h5 := hc j hj i hi
  rw [hv] at h5 ⊢
  exact (hb.cell (World.block_lt_of_cell? w _ h5)).trans h5
/-- One of them. -/
theorem SetAt.get {w : World} {A : Option Addr} {c : Nat} {zs : List Nx} (h : SetAt w A c zs) (j : Nat) (hj : j < zs.length) : ∃ b o, A = some ⟨b, o, none⟩ ∧ w.cell? ⟨b, o + j * 4, none⟩ = some (.string zs[j].nm) ∧
    w.cell? ⟨b, o + j * 4 + 1, none⟩ = some (.string zs[j].note) ∧ w.cell? ⟨b, o + j * 4 + 2, none⟩ = some (.slice zs[j].D zs[j].deps.length zs[j].dc) ∧ w.cell? ⟨b, o + j * 4 + 3, none⟩ = some (.slice zs[j].O zs[j].on zs[j].oc) := by
  obtain ⟨_, _, h3, _⟩ := h
  obtain ⟨b, o, e, hc⟩ := h3 (by omega)
  exact ⟨b, o, e, hc j hj 0 (by omega), hc j hj 1 (by omega), hc j hj 2 (by omega), hc j hj 3 (by omega)⟩
def nds (zs : List Nx) : List (Nd ByteArray) := zs.map Nx.nd
def names (zs : List Nx) : List ByteArray := zs.map Nx.nm
theorem names_nds (zs : List Nx) : (nds zs).map Nd.nm = names zs := by unfold nds names; rw [List.map_map]; rfl
theorem names_get (zs : List Nx) (j : Nat) (hj : j < zs.length) : (names zs)[j]? = some zs[j].nm := by unfold names; rw [List.getElem?_map, List.getElem?_eq_getElem hj]; rfl
theorem names_take (zs : List Nx) (j : Nat) (hj : j < zs.length) : (names zs).take (j + 1) = (names zs).take j ++ [zs[j].nm] := by
  unfold names
  rw [List.map_take.symm, List.map_take.symm, List.take_succ_eq_append_getElem hj, List.map_append]
  rfl
open Classical in
/-- What is counted at first. -/
noncomputable def M1 (l : List ByteArray) : ByteArray → Option Value := fun s => if s ∈ l then some (.int .i64 0) else none
theorem M1_snoc (l : List ByteArray) (s : ByteArray) : upd (M1 l) s (.int .i64 0) = M1 (l ++ [s]) := by
  funext y
  unfold upd M1
  by_cases e : y = s
  · subst e; simp
  · rw [if_neg e]
    by_cases h : y ∈ l
    · rw [if_pos h, if_pos (by simp [h])]
    · rw [if_neg h, if_neg (by simp [h, e])]
theorem M1_nil : M1 [] = fun _ => none := by funext y; simp [M1]
end Go.Proofs.YtalkhiggapbfjaaDoor.Orp
