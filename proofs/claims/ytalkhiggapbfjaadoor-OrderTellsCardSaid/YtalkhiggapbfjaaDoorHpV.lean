/- container/heap's Push and Pop over order's ready. -/
import Derived.Test.YtalkhiggapbfjaaDoorHpU
set_option linter.unusedVariables false
set_option linter.unusedSimpArgs false
namespace Go.Proofs.YtalkhiggapbfjaaDoor.Hp
open Go Go.RowKit Go.Proofs.YtalkhiggapbfjaaDoor.B Go.Proofs.YtalkhiggapbfjaaDoor.St
/-- The heap at R has what m has. -/
def HeapAt (R base : Nat) (v : Value) (m : List ByteArray) (w : World) : Prop := ∃ l, IsHeap ltB d0 l ∧ l.Perm m ∧ HAt R base v l w
def HPushPost (R base : Nat) (v0 : Value) (m : List ByteArray) (w0 : World) (e : Ending) (w : World) : Prop := e = .returned (.tuple #[]) ∧ ∃ v, HeapAt R base v m w ∧ Hgr R v0 v w0 w
set_option maxRecDepth 100000 in
set_option maxHeartbeats 1000000 in
theorem hpush_c {R base : Nat} {v : Value} {m : List ByteArray} {s : ByteArray} {w : World} (h : HeapAt R base v m w) (hm : m.length ≤ 100000) :
    Calls Tryd.prog 21 #[.iface 52 (.pointer (some ⟨R, 0, none⟩)), .iface 9 (.string s)] w (HPushPost R base v (s :: m) w) := by
  obtain ⟨l, hh, hp, hA⟩ := h
  have hlen := hp.length_eq
  have mp := fun (w : World) => meth_push ⟨R, 0, none⟩ w
  have hpc := Lib.hid (push_c (s := s) hA (by omega))
  replace hh := Lib.hid hh
  replace hp := Lib.hid hp
  replace hA := Lib.hid hA
  replace hlen := Lib.hid hlen
  go_enter Tryd.func21, Tryd.ntmps21
  go_wp2_with fail
  refine hpc.out.mono ?_
  rintro e w1 ⟨rfl, v1, hA1, hg1⟩
  have cR : w1.cell? ⟨R, 0, none⟩ = some v1 := cell_of hA1.1 0
  obtain ⟨g, cap, rfl⟩ : ∃ g cap, v1 = .slice (some ⟨g, 0, none⟩) (l.length + 1 : Nat) cap := by
    rcases hA1.2.1.form with ⟨_, e⟩ | ⟨g, cap, cur, rfl, _⟩
    · exact absurd e (by simp)
    · exact ⟨g, cap, by simp⟩
  have ml := meth_len cR
  have q1 : ((l.length + 1 : Nat) : Int) - 1 = l.length := by omega
  have hup := Lib.hid (up_c hA1 (hh.out.push s) (by have := hlen.out; simp; omega))
  replace hA1 := Lib.hid hA1
  replace hg1 := Lib.hid hg1
  have hlb : (l.length : Int) ≤ 1000000 := by have := hlen.out; omega
  go_wp2_with fail
  refine (len_c _ _ _ _).mono ?_
  rintro e w2 ⟨rfl, rfl⟩
  go_wp2_with fail
  refine hup.out.mono ?_
  rintro e w3 ⟨rfl, v3, l3, h1, h2, h3, h4⟩
  go_wp2_with fail
  go_end0
  exact ⟨rfl, v3, ⟨l3, h1, h2.trans ((List.perm_append_comm (l₁ := l)).trans (hp.out.cons s)), h3⟩, hg1.out.trans h4⟩
def HPopPost (R base : Nat) (v0 : Value) (m : List ByteArray) (w0 : World) (e : Ending) (w : World) : Prop := ∃ s m' v, e = .returned (.iface 9 (.string s)) ∧ (s :: m').Perm m ∧ (∀ x ∈ m, le ltB s x) ∧ HeapAt R base v m' w ∧ Hgr R v0 v w0 w
set_option maxRecDepth 100000 in
set_option maxHeartbeats 1000000 in
theorem hpop_c {R base : Nat} {v : Value} {m : List ByteArray} {w : World} (h : HeapAt R base v m w) (hm : m.length ≤ 100000) (h0 : 0 < m.length) :
    Calls Tryd.prog 23 #[.iface 52 (.pointer (some ⟨R, 0, none⟩))] w (HPopPost R base v m w) := by
  obtain ⟨l, hh, hp, hA⟩ := h
  have hlen := hp.length_eq
  have cR : w.cell? ⟨R, 0, none⟩ = some v := cell_of hA.1 0
  obtain ⟨n, hn⟩ : ∃ n, l.length = n + 1 := ⟨l.length - 1, by omega⟩
  obtain ⟨g, cap, rfl⟩ : ∃ g cap, v = .slice (some ⟨g, 0, none⟩) (n + 1 : Nat) cap := by
    rcases hA.2.1.form with ⟨_, e⟩ | ⟨g, cap, cur, rfl, _⟩
    · rw [e] at hn; exact absurd hn (by simp)
    · exact ⟨g, cap, by rw [hn]⟩
  have ml := meth_len cR
  have ms := meth_swap cR
  have q1 : ((n + 1 : Nat) : Int) - 1 = n := by omega
  have hnb : (n : Int) ≤ 100000 := by omega
  have hne := Lib.hid hA.ne
  have hsw := Lib.hid (swap_c (w := w) hA.2.1 hn 0 n (by omega) (by omega) (by omega))
  replace hh := Lib.hid hh
  replace hp := Lib.hid hp
  replace hA := Lib.hid hA
  replace hlen := Lib.hid hlen
  replace hn := Lib.hid hn
  clear h0
  go_enter Tryd.func23, Tryd.ntmps23
  go_wp2_with fail
  refine (len_c _ _ _ _).mono ?_
  rintro e w2 ⟨rfl, rfl⟩
  go_wp2_with fail
  refine hsw.out.mono ?_
  rintro e w1 ⟨rfl, hrow1, hg1⟩
  have hA1 : HAt R base (.slice (some ⟨g, 0, none⟩) (n + 1 : Nat) cap) (sw d0 l 0 n) w1 := ⟨hg1.heap hA.out.1 hne.out, hrow1, Nat.le_trans hA.out.2.2 hg1.1⟩
  have hdn := Lib.hid (down_c (n := n) hA1 (by have := pop_start hh.out (by have := hn.out; omega); rw [hn.out, Nat.add_sub_cancel] at this; exact this) (by rw [sw_len]; have := hn.out; omega) (by rw [sw_len]; have := hn.out; omega))
  replace hA1 := Lib.hid hA1
  replace hg1 := Lib.hid hg1
  replace hrow1 := Lib.hid hrow1
  go_wp2_with fail
  refine hdn.out.mono ?_
  rintro e w3 ⟨⟨b, rfl⟩, v3, l3, h1, h2, h3, h4, h5⟩
  have mp := meth_pop ⟨R, 0, none⟩ w3
  have hl3 : l3.length = n + 1 := by have := h2.length_eq; rw [sw_len] at this; rw [this]; exact hn.out
  have hpe := pop_end tob hh.out (ys := l3) (by have := hn.out; omega) (by rw [hn.out, Nat.add_sub_cancel]; exact h2) (by rw [hn.out, Nat.add_sub_cancel]; exact h3) (by rw [hn.out, Nat.add_sub_cancel]; exact h1)
  rw [hn.out, Nat.add_sub_cancel] at hpe
  have hpop := Lib.hid (pop_h h4 (by omega) (by omega) (s := l.getD 0 d0) (by rw [hl3, Nat.add_sub_cancel]; exact hpe.2.1))
  replace hpe := Lib.hid hpe
  replace h1 := Lib.hid h1
  replace h2 := Lib.hid h2
  replace h3 := Lib.hid h3
  replace h4 := Lib.hid h4
  replace h5 := Lib.hid h5
  replace hl3 := Lib.hid hl3
  go_wp2_with fail
  refine hpop.out.mono ?_
  rintro e w4 ⟨rfl, v4, hA4, hg4⟩
  rw [hl3.out, Nat.add_sub_cancel] at hA4
  replace hA4 := Lib.hid hA4
  replace hg4 := Lib.hid hg4
  go_wp2_with fail
  go_ret
  exact ⟨l.getD 0 d0, l3.take n, v4, rfl, hpe.out.2.2.1.trans hp.out, fun x hx => hpe.out.2.2.2 x (hp.out.mem_iff.2 hx), ⟨_, hpe.out.1, .refl _, hA4.out⟩, ((Hgr.of_grew hg1.out rfl).trans h5.out).trans hg4.out⟩
end Go.Proofs.YtalkhiggapbfjaaDoor.Hp
