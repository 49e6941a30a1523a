/- What the rows of layer 6 share: a number turned into a place, texts behind texts, what is missing. -/
import Derived.Test.YtalkhiggapbfjaaDoorOrA
import Derived.Test.YtalkhiggapbfjaaDoorOrO
import Derived.Maps.AppendAt
set_option linter.unusedVariables false
set_option linter.unusedSimpArgs false
namespace Go.Proofs.YtalkhiggapbfjaaDoor.Orp
open Go Go.RowKit Go.Proofs.YtalkhiggapbfjaaDoor.B Go.Proofs.YtalkhiggapbfjaaDoor.St Go.Proofs.YtalkhiggapbfjaaDoor.Mp
open Go.Proofs.YtalkhiggapbfjaaDoor.Hp (ltB le tob ltB_iff)
def YesP (w : World) (e : Ending) (w' : World) : Prop := e = .returned (.bool true) ∧ Below w.heap.size w w'
/-- n, turned into a place. -/
def pIx (n : Nat) (a : Int) : Nat := ((a.tmod n + n).tmod n).toNat
theorem pIx_eq (n : Nat) (h : 0 < n) (hn : n ≤ 1000000) (a : Int) : (wrap64 (a.tmod n + n)).tmod n = (pIx n a : Int) ∧ pIx n a < n := by
  have h1 : -(n : Int) < a.tmod n := Int.lt_tmod_of_pos a (by omega)
  have h2 : a.tmod n < n := Int.tmod_lt_of_pos a (by omega)
  have e : wrap64 (a.tmod n + n) = a.tmod n + n := by
    generalize a.tmod n = z at *
    unfold wrap64
    omega
  have h3 : 0 ≤ (a.tmod n + n).tmod n := Int.tmod_nonneg _ (by omega)
  have h4 : (a.tmod n + n).tmod n < n := Int.tmod_lt_of_pos _ (by omega)
  rw [e]
  unfold pIx
  generalize (a.tmod n + n).tmod n = z at *
  omega
/-- A slice of texts behind another. -/
theorem str_cat {ops : Array Oper} {rest : List Oper} {o : Oper} {a : Act} {Q : Exit → Act → World → Prop} {base : Nat} {w : World} {v : Value} {l m : List ByteArray} (hgd : o.guard = none) (s y : Operand) (t : TypeId)
    (ho : o.op = .call { callee := .builtin .append, args := #[s, y], argTypes := #[t, t] }) (ht : Tryd.prog.underlying t = some (.slice 9))
    (hs : a.eval s = v) (g k c : Nat) (hx : a.eval y = .slice (some ⟨g, 0, none⟩) k c) (hk : k = m.length) (hm : RAt w (some ⟨g, 0, none⟩) m) (hrow : SRow base w v l) (n : Nat) (hn : l.length = n) (hb : n + k ≤ 1000000) (hbase : base ≤ w.heap.size)
    (h : ∀ v' w', SRow base w' v' (l ++ m) → Grew v w w' → (v'.ownBlock = v.ownBlock ∨ v'.ownBlock = some w.heap.size) → wpList Tryd.prog ops Q rest (a.put o.dst v') w') :
    wpList Tryd.prog ops Q (o :: rest) a w := by
  subst hk
  subst hn
  obtain ⟨iF, hiF, hzF, hsF, hbF⟩ := infoS
  have hown := hrow
  unfold SRow at hown
  refine wpList_append_own_at _ hgd s y t ho base 9 iF _ 1 16 ht hiF hzF hsF hbF rfl (by omega) v l.length _ hs hown ⟨g, 0, none⟩ m.length c (m.map fun s => .string s) hx (by simp) (fun j u hu => ?_) (fun u hu => by obtain ⟨x, _, rfl⟩ := List.mem_map.1 hu; rfl) (by unfold maxLen; omega) (by omega) hbase ?_
  · obtain ⟨hj, hu'⟩ := List.getElem?_eq_some_iff.1 hu
    have hj' : j < m.length := by simpa using hj
    obtain ⟨b, o', e, hc⟩ := hm (by omega)
    cases e
    rw [add0, ← hu']
    simpa [List.getD_eq_getElem?_getD, List.getElem?_eq_getElem hj'] using hc j hj'
  · intro v' w' hown' hgrow _ hat
    refine h v' w' ?_ ⟨hgrow.size, hgrow.os, hgrow.tape, hgrow.output, fun k h1 h2 => hgrow.block k h1 h2⟩ hat
    unfold SRow
    rw [List.map_append, List.length_append]
    exact hown'
theorem drop_is {l : List ByteArray} (hl : l.Nodup) (n : Nat) : (l.filter fun s => !inB (l.take n) s) = l.drop n := by
  rw [← filter_drop hl n]
  exact List.filter_congr fun s _ => by rw [Bool.eq_iff_iff]; simp only [Bool.not_eq_true', Bool.eq_false_iff, ne_eq, inB_iff, List.contains_iff_mem]
/-- A row made here, as one that came in. -/
theorem tat_of {base : Nat} {w : World} {A : Option Addr} {n c : Nat} {l : List ByteArray} (h : SRow base w (.slice A n c) l) (hs : ∀ x ∈ l, x.size ≤ 140737488351232) (hl : l.length ≤ 1000000) : TAt w A c l := by
  refine ⟨?_, by omega, hs, (SRow.rat h).1⟩
  rcases h.form with ⟨e, rfl⟩ | ⟨g', cap, cur, e, _, _, h4, _⟩
  · exact Nat.zero_le _
  · cases e; exact h4
theorem lin_sizes {w : World} {A : Option Addr} {c : Nat} {zs : List Nx} {l : List ByteArray} (hS : SetAt w A c zs) (hl : Lin ltB (nds zs) l) : ∀ x ∈ l, x.size ≤ 140737488351232 := by
  intro x hx
  obtain ⟨y, hy, rfl⟩ := hl.1.names x hx
  obtain ⟨z, hz, rfl⟩ := nds_nd hy
  exact (hS.2.2.2 z hz).1
end Go.Proofs.YtalkhiggapbfjaaDoor.Orp
