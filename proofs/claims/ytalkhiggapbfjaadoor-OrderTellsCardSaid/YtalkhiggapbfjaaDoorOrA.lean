/- awake of layer 6's statements. -/
import Derived.Test.YtalkhiggapbfjaaDoorOrT
set_option linter.unusedVariables false
set_option linter.unusedSimpArgs false
namespace Go.Proofs.YtalkhiggapbfjaaDoor.Orp
open Go Go.RowKit Go.Proofs.YtalkhiggapbfjaaDoor.B Go.Proofs.YtalkhiggapbfjaaDoor.St Go.Proofs.YtalkhiggapbfjaaDoor.Mp
open Go.Proofs.YtalkhiggapbfjaaDoor.Hp (ltB le tob ltB_iff)
def nA : ByteArray := ⟨#[97]⟩
def nB : ByteArray := ⟨#[98]⟩
def nC : ByteArray := ⟨#[99]⟩
def awZ (H : Nat) : List Nx := [⟨nC, ⟨#[]⟩, [nA], some ⟨H, 0, none⟩, 1, none, 0, 0⟩, ⟨nB, ⟨#[]⟩, [nA], some ⟨H + 1, 0, none⟩, 1, none, 0, 0⟩, ⟨nA, ⟨#[]⟩, [], none, 0, none, 0, 0⟩]
theorem nds_aw (H : Nat) : nds (awZ H) = [⟨nC, [nA]⟩, ⟨nB, [nA]⟩, ⟨nA, []⟩] := rfl
theorem nAB : nA ≠ nB := by decide
theorem nAC : nA ≠ nC := by decide
theorem nBC : nB ≠ nC := by decide
theorem le_of (x y : ByteArray) (h : Op.bytesLess y.data.toList x.data.toList = false) : le ltB x y := by unfold le ltB; rw [ByteArray.toList_eq, ByteArray.toList_eq, h]; simp
theorem aw_lin (H : Nat) : Lin ltB (nds (awZ H)) [nA, nB, nC] := by
  rw [nds_aw]
  have h1 := nAB; have h2 := nAC; have h3 := nBC
  have l1 : le ltB nA nA := le_of _ _ (by decide)
  have l2 : le ltB nB nB := le_of _ _ (by decide)
  have l3 : le ltB nB nC := le_of _ _ (by decide)
  have l4 : le ltB nC nC := le_of _ _ (by decide)
  have g1 : Greedy ltB [⟨nC, [nA]⟩, ⟨nB, [nA]⟩, (⟨nA, []⟩ : Nd ByteArray)] [nA] := by
    refine .snoc [] nA .nil ⟨⟨⟨nA, []⟩, by simp, rfl, by simp, by simp⟩, ?_⟩
    rintro t ⟨x, hx, rfl, _, hd⟩
    simp at hx
    rcases hx with rfl | rfl | rfl
    · exact absurd (hd nA (by simp)) (by simp)
    · exact absurd (hd nA (by simp)) (by simp)
    · exact l1
  have g2 : Greedy ltB [⟨nC, [nA]⟩, ⟨nB, [nA]⟩, (⟨nA, []⟩ : Nd ByteArray)] [nA, nB] := by
    refine .snoc [nA] nB g1 ⟨⟨⟨nB, [nA]⟩, by simp, rfl, by simp [h1.symm], by simp⟩, ?_⟩
    rintro t ⟨x, hx, rfl, hn, hd⟩
    simp at hx
    rcases hx with rfl | rfl | rfl
    · exact l3
    · exact l2
    · exact absurd hn (by simp)
  refine ⟨.snoc [nA, nB] nC g2 ⟨⟨⟨nC, [nA]⟩, by simp, rfl, by simp [h2.symm, h3.symm], by simp⟩, ?_⟩, ?_⟩
  · rintro t ⟨x, hx, rfl, hn, hd⟩
    simp at hx
    rcases hx with rfl | rfl | rfl
    · exact l4
    · exact absurd hn (by simp)
    · exact absurd hn (by simp)
  · rintro t ⟨x, hx, rfl, hn, hd⟩
    simp at hx
    rcases hx with rfl | rfl | rfl <;> exact absurd hn (by simp)
theorem aw_nodup (H : Nat) : (names (awZ H)).Nodup := by
  show [nC, nB, nA].Nodup
  have h1 := nAB; have h2 := nAC; have h3 := nBC
  simp [h1.symm, h2.symm, h3.symm]
theorem aw_head (H : Nat) (s : ByteArray) : Head (nds (awZ H)) s ↔ s ∈ [nB, nC] := by
  rw [nds_aw]
  have h1 := nAB; have h2 := nAC; have h3 := nBC
  unfold Head There
  simp
  constructor
  · rintro ⟨h | h | h, h4⟩
    · exact .inr h.symm
    · exact .inl h.symm
    · exact absurd h.symm h4
  · rintro (rfl | rfl)
    · exact ⟨.inr (.inl rfl), h1.symm⟩
    · exact ⟨.inl rfl, h2.symm⟩
theorem rising_eq {l m : List ByteArray} (hl : SS (toL l)) (hm : SS (toL m)) (h : ∀ s, s ∈ l ↔ s ∈ m) : l = m := by
  have := ss_eq hl hm (fun x => by
    have e : x = (⟨x.toArray⟩ : ByteArray).data.toList := by simp
    rw [e, ofL_toL_mem, ofL_toL_mem]
    exact h _)
  rw [← ofL_toL l, this, ofL_toL]
theorem set1 {w : World} {g : Nat} {s : ByteArray} (h : w.heap[g]? = some (.cells #[.string s] 9 (0, 0))) (hs : s.size ≤ 140737488351232) : TAt w (some ⟨g, 0, none⟩) 1 [s] :=
  ⟨Nat.le_refl _, by simp, fun x hx => by simp at hx; subst hx; exact hs, fun _ => ⟨g, 0, rfl, fun j hj => by
    have : j = 0 := by simp at hj; exact hj
    subst this
    rw [cell_of h]; rfl⟩⟩
theorem set0 (w : World) (A : Option Addr) (c : Nat) : TAt w A c [] := ⟨Nat.zero_le _, by simp, fun x hx => (by cases hx), fun h => absurd h (by simp)⟩
theorem rat_new (w : World) (l : List ByteArray) : RAt (w.alloc (.cells (l.map fun s => Value.string s).toArray 9)) (some ⟨w.heap.size, 0, none⟩) l := fun _ => ⟨_, 0, rfl, fun j hj => by
  rw [Nat.zero_add, cell_of (heap_alloc_at w _)]
  simp [hj]⟩
theorem RAt.below {w w' : World} {A : Option Addr} {l : List ByteArray} {B : Nat} (h : RAt w A l) (hb : Below B w w') (hA : ∀ p, A = some p → p.block < B) : RAt w' A l := fun h0 => by
  obtain ⟨b, o, rfl, hc⟩ := h h0
  exact ⟨b, o, rfl, fun j hj => (hb.cell (p := ⟨b, o + j, none⟩) (show b < B from hA ⟨b, o, none⟩ rfl)).trans (hc j hj)⟩
theorem SRow.alloc {base : Nat} {w : World} {v : Value} {l : List ByteArray} (h : SRow base w v l) (o : Obj) : SRow base (w.alloc o) v l := h.same fun b hb => heap_alloc_lt _ _ _ (h.lt b hb).2
theorem ss_bc : SS (toL [nB, nC]) := .cons (fun x hx => by
  obtain rfl : x = nC.data.toList := by simpa [toL] using hx
  show ([98] : List UInt8) < [99]
  decide) (.cons (fun x hx => by cases hx) .nil)
theorem below_drewN {B : Nat} {a w : World} (h : Below B a w) (q : Nat) : Below B a (w.drewN q) := h.trans ⟨rfl, rfl, rfl, Nat.le_refl _, fun _ _ => rfl⟩
def awC (H : Nat) : Array Value := #[.string nC, .string ⟨#[]⟩, .slice (some ⟨H, 0, none⟩) 1 1, .slice none 0 0, .string nB, .string ⟨#[]⟩, .slice (some ⟨H + 1, 0, none⟩) 1 1, .slice none 0 0, .string nA, .string ⟨#[]⟩, .slice none 0 0, .slice none 0 0]
def awW (w : World) : World := ((w.alloc (.cells #[.string nA] 9)).alloc (.cells #[.string nA] 9)).alloc (.cells (awC w.heap.size) 30)
theorem awW_below (w : World) : Below w.heap.size w (awW w) := (((Below.refl _ _).alloc (Nat.le_refl _) _).alloc (by rw [St.size_alloc]; omega) _).alloc (by rw [St.size_alloc, St.size_alloc]; omega) _
theorem aw_set (w : World) : SetAt (awW w) (some ⟨w.heap.size + 2, 0, none⟩) 3 (awZ w.heap.size) := by
  have s1 : (w.alloc (.cells #[.string nA] 9)).heap.size = w.heap.size + 1 := St.size_alloc _ _
  have s2 : ((w.alloc (.cells #[.string nA] 9)).alloc (.cells #[.string nA] 9)).heap.size = w.heap.size + 2 := by rw [St.size_alloc, s1]
  have b2 : (awW w).heap[w.heap.size + 2]? = some (.cells (awC w.heap.size) 30 (0, 0)) := by
    have := heap_alloc_at ((w.alloc (.cells #[.string nA] 9)).alloc (.cells #[.string nA] 9)) (.cells (awC w.heap.size) 30)
    rw [s2] at this
    exact this
  have b0 : (awW w).heap[w.heap.size]? = some (.cells #[.string nA] 9 (0, 0)) := (heap_alloc_lt _ _ _ (by rw [s2]; omega)).trans ((heap_alloc_lt _ _ _ (by rw [s1]; omega)).trans (heap_alloc_at _ _))
  have b1 : (awW w).heap[w.heap.size + 1]? = some (.cells #[.string nA] 9 (0, 0)) := by
    refine (heap_alloc_lt _ _ _ (by rw [s2]; omega)).trans ?_
    have := heap_alloc_at (w.alloc (.cells #[.string nA] 9)) (.cells #[.string nA] 9)
    rw [s1] at this
    exact this
  refine ⟨by simp [awZ], by simp [awZ], fun _ => ⟨w.heap.size + 2, 0, rfl, fun j hj i hi => ?_⟩, fun z hz => ?_⟩
  · rw [Nat.zero_add, cell_of b2]
    have hj3 : j < 3 := hj
    match j, hj3, i, hi with
    | 0, _, 0, _ => rfl
    | 0, _, 1, _ => rfl
    | 0, _, 2, _ => rfl
    | 0, _, 3, _ => rfl
    | 1, _, 0, _ => rfl
    | 1, _, 1, _ => rfl
    | 1, _, 2, _ => rfl
    | 1, _, 3, _ => rfl
    | 2, _, 0, _ => rfl
    | 2, _, 1, _ => rfl
    | 2, _, 2, _ => rfl
    | 2, _, 3, _ => rfl
  · simp [awZ] at hz
    rcases hz with rfl | rfl | rfl
    · exact ⟨(by show nC.size ≤ _; decide), set1 b0 (by decide)⟩
    · exact ⟨(by show nB.size ≤ _; decide), set1 b1 (by decide)⟩
    · exact ⟨(by show nA.size ≤ _; decide), set0 _ _ _⟩
set_option maxRecDepth 100000 in
set_option maxHeartbeats 1000000 in
theorem awake_c (w : World) : Calls Tryd.prog 5 #[] w fun e w' => e = .returned (.bool true) ∧ Below w.heap.size w w' := by
  have hz3 : (awZ w.heap.size).length = 3 := rfl
  have hdz : ∀ z ∈ awZ w.heap.size, z.deps.length ≤ 1000 := by
    intro z hz
    simp [awZ] at hz
    rcases hz with rfl | rfl | rfl <;> simp
  have hL := linear2_c _ 3 (awZ w.heap.size) (awW w) (aw_set w) (by rw [hz3]; omega) hdz
  rw [hz3] at hL
  have hLH := Lib.hid hL
  have hWb := Lib.hid (awW_below w)
  have hSet := Lib.hid (aw_set w)
  have hdH := Lib.hid hdz
  clear hL hz3 hdz
  go_enter Tryd.func5, Tryd.ntmps5
  go_wp2_with fail
  refine hLH.out.mono ?_
  rintro e w1 ⟨v, er, rfl, hr, hb⟩
  obtain ⟨l, hl, he, hrow⟩ : ∃ l, l = [nA, nB, nC] ∧ er = .nilIface ∧ SRow (awW w).heap.size w1 v l := by
    rcases hr with ⟨hn, _⟩ | ⟨_, l, hl, ⟨hlt, _⟩ | ⟨hle, he, hrow⟩⟩
    · exact absurd (aw_nodup _) hn
    · rw [hl.uniq Hp.tob (aw_lin _)] at hlt; exact absurd hlt (by show ¬ (3 < 3); omega)
    · exact ⟨l, hl.uniq Hp.tob (aw_lin _), he, hrow⟩
  subst he
  subst hl
  obtain ⟨Av, cv, rfl⟩ := hrow.shape
  have hrowH := Lib.hid hrow
  have hbH := Lib.hid hb
  clear hrow hb hr
  go_wp2_with fail
  refine (same_c Av _ cv 3 [nA, nB, nC] [nA, nB, nC] _ (SRow.rat (SRow.alloc hrowH.out _)).1 (rat_new w1 [nA, nB, nC]) (by simp) (by simp) true (by simp)).mono ?_
  rintro e w2 ⟨rfl, q, rfl⟩
  go_wp2_with fail
  have hb2 : Below (awW w).heap.size (awW w) ((w1.alloc (.cells #[.string nA, .string nB, .string nC] 9)).drewN q) := below_drewN (hbH.out.alloc hbH.out.size _) q
  have hH := heads_c _ 3 (awZ w.heap.size) _ (hSet.out.below hb2) (by simp [awZ]) hdH.out
  generalize hw2 : ((w1.alloc (.cells #[.string nA, .string nB, .string nC] 9)).drewN q) = w2 at hH hb2
  have hb2H := Lib.hid hb2
  clear hb2 hw2 hrowH hbH
  refine hH.mono ?_
  rintro e w3 ⟨v, rfl, ⟨l, hrow, hss, hmem⟩, hb3⟩
  have hl : l = [nB, nC] := rising_eq hss ss_bc (fun s => (hmem s).trans (aw_head _ s))
  subst hl
  obtain ⟨Aw, cw, rfl⟩ := hrow.shape
  have hrowH := Lib.hid hrow
  have hb3H := Lib.hid hb3
  clear hrow hb3 hss hmem hH
  go_wp2_with fail
  refine (same_c Aw _ cw 2 [nB, nC] [nB, nC] _ (SRow.rat (SRow.alloc hrowH.out _)).1 (rat_new w3 [nB, nC]) (by simp) (by simp) true (by simp)).mono ?_
  rintro e w4 ⟨rfl, q2, rfl⟩
  go_wp2_with fail
  go_ret
  have h1 : Below w.heap.size w w2 := (hWb.out.trans ((hb2H.out).mono (hWb.out.size)))
  have h2 : Below w.heap.size w w3 := h1.trans (hb3H.out.mono h1.size)
  exact ⟨rfl, below_drewN (h2.alloc h2.size _) _⟩
end Go.Proofs.YtalkhiggapbfjaaDoor.Orp
