/- What LawWireReads, LawWireWrites, LawWireSpoilt lean on, part g of 15: the texts TmF, TmT, TmI, TmK, TmN, TmD, TmJ, TmS. -/
import Derived.Test.YtbefkoljcacpcaaGreatDoorTWb
import Derived.Test.YtbefkoljcacpcaaGreatDoorTWe
import Derived.Test.YtbefkoljcacpcaaGreatDoorTWf
import Derived.Lib.ItoaNum
import Derived.Handy
import Derived.Lib.AtoiAllCases
import Derived.Lib.ItoaMem
set_option linter.unusedVariables false
set_option linter.unusedSimpArgs false
namespace Go.Proofs.YtbefkoljcacpcaaGreatDoor.Tm
open Go Go.RowKit Go.Proofs.YtbefkoljcacpcaaGreatDoor.B Go.Proofs.YtbefkoljcacpcaaGreatDoor.Bld
mutual
def FK (ok : Nat → Prop) (w : World) : F → List Value → Prop
  | .mk b t l, cs => ∃ A c, cs = [.bool b, .string ⟨t.toArray⟩, .slice A l.length c] ∧ l.length ≤ c ∧ l.length ≤ 140737488355328 ∧ FKs ok w A 0 l
def FKs (ok : Nat → Prop) (w : World) (A : Option Addr) : Nat → List F → Prop
  | _, [] => True
  | i, f :: l => (∃ b o c0 c1 c2, A = some ⟨b, o, none⟩ ∧ ok b ∧ w.cell? ⟨b, o + i * 3, none⟩ = some c0 ∧ w.cell? ⟨b, o + i * 3 + 1, none⟩ = some c1 ∧ w.cell? ⟨b, o + i * 3 + 2, none⟩ = some c2 ∧ FK ok w f [c0, c1, c2]) ∧ FKs ok w A (i + 1) l
end
mutual
theorem FK.move {ok ok' : Nat → Prop} {w w' : World} (hm : ∀ b, ok b → ok' b ∧ w'.heap[b]? = w.heap[b]?) : ∀ (f : F) (cs : List Value), FK ok w f cs → FK ok' w' f cs
  | .mk b t l, cs, h => by
    unfold FK at h ⊢
    obtain ⟨A, c, h1, h2, h3, h4⟩ := h
    exact ⟨A, c, h1, h2, h3, FKs.move hm l A 0 h4⟩
theorem FKs.move {ok ok' : Nat → Prop} {w w' : World} (hm : ∀ b, ok b → ok' b ∧ w'.heap[b]? = w.heap[b]?) : ∀ (l : List F) (A : Option Addr) (i : Nat), FKs ok w A i l → FKs ok' w' A i l
  | [], _, _, _ => by unfold FKs; trivial
  | f :: l, A, i, h => by
    unfold FKs at h ⊢
    obtain ⟨⟨b, o, c0, c1, c2, h1, h2, h3, h4, h5, h6⟩, h7⟩ := h
    have e := (hm b h2).2
    exact ⟨⟨b, o, c0, c1, c2, h1, (hm b h2).1, (World.cell?_of_block (a := ⟨b, _, none⟩) e).trans h3, (World.cell?_of_block (a := ⟨b, _, none⟩) e).trans h4, (World.cell?_of_block (a := ⟨b, _, none⟩) e).trans h5, FK.move hm f _ h6⟩, FKs.move hm l A (i + 1) h7⟩
end
mutual
theorem FK.toFV {ok : Nat → Prop} {B : Nat} {w : World} (hm : ∀ b, ok b → b < B) : ∀ (f : F) (cs : List Value), FK ok w f cs → FV B w f cs
  | .mk b t l, cs, h => by
    unfold FK at h
    unfold FV
    obtain ⟨A, c, h1, h2, h3, h4⟩ := h
    exact ⟨A, c, h1, h2, h3, FKs.toFV hm l A 0 h4⟩
theorem FKs.toFV {ok : Nat → Prop} {B : Nat} {w : World} (hm : ∀ b, ok b → b < B) : ∀ (l : List F) (A : Option Addr) (i : Nat), FKs ok w A i l → FVs B w A i l
  | [], _, _, _ => by unfold FVs; trivial
  | f :: l, A, i, h => by
    unfold FKs at h
    unfold FVs
    obtain ⟨⟨b, o, c0, c1, c2, h1, h2, h3, h4, h5, h6⟩, h7⟩ := h
    exact ⟨⟨b, o, c0, c1, c2, h1, hm b h2, h3, h4, h5, FK.toFV hm f _ h6⟩, FKs.toFV hm l A (i + 1) h7⟩
end
theorem FK.text (ok : Nat → Prop) (w : World) (s : ByteArray) : FK ok w (txt s.data.toList) [.bool false, .string s, .slice none 0 0] := by
  unfold txt FK
  exact ⟨none, 0, rfl, Nat.le_refl _, by simp, by unfold FKs; trivial⟩
theorem FK.cells {ok : Nat → Prop} {w : World} {f : F} {c0 c1 c2 : Value} (h : FK ok w f [c0, c1, c2]) : c0.oneCell' = true ∧ c1.oneCell' = true ∧ c2.oneCell' = true := by
  obtain ⟨b, t, l⟩ := f
  unfold FK at h
  obtain ⟨A, c, h1, _⟩ := h
  simp only [List.cons.injEq, and_true] at h1
  obtain ⟨rfl, rfl, rfl⟩ := h1
  exact ⟨rfl, rfl, rfl⟩
def FC (ok : Nat → Prop) (w : World) : List F → List Value → Prop
  | [], cs => cs = []
  | f :: l, cs => ∃ c0 c1 c2 r, cs = c0 :: c1 :: c2 :: r ∧ FK ok w f [c0, c1, c2] ∧ FC ok w l r
theorem FC.move {ok ok' : Nat → Prop} {w w' : World} (hm : ∀ b, ok b → ok' b ∧ w'.heap[b]? = w.heap[b]?) : ∀ {l : List F} {cs : List Value}, FC ok w l cs → FC ok' w' l cs
  | [], _, h => h
  | f :: l, cs, ⟨c0, c1, c2, r, h1, h2, h3⟩ => ⟨c0, c1, c2, r, h1, FK.move hm f _ h2, FC.move hm h3⟩
theorem FC.snoc {ok : Nat → Prop} {w : World} {f : F} {a b c : Value} (hf : FK ok w f [a, b, c]) : ∀ {l : List F} {cs : List Value}, FC ok w l cs → FC ok w (l ++ [f]) (cs ++ [a, b, c])
  | [], _, h => by
    cases h
    exact ⟨a, b, c, [], rfl, hf, rfl⟩
  | g :: l, cs, ⟨c0, c1, c2, r, h1, h2, h3⟩ => ⟨c0, c1, c2, r ++ [a, b, c], by rw [h1]; rfl, h2, FC.snoc hf h3⟩
theorem FC.toFKs {ok ok' : Nat → Prop} {w : World} {b o : Nat} (hok : ∀ k, ok k → ok' k) (hb : ok' b) : ∀ {l : List F} {cs : List Value} (i : Nat), FC ok w l cs → (∀ j u, cs[j]? = some u → w.cell? ⟨b, o + i * 3 + j, none⟩ = some u) → FKs ok' w (some ⟨b, o, none⟩) i l
  | [], _, _, _, _ => by unfold FKs; trivial
  | f :: l, cs, i, ⟨c0, c1, c2, r, h1, h2, h3⟩, hc => by
    subst h1
    unfold FKs
    refine ⟨⟨b, o, c0, c1, c2, rfl, hb, hc 0 c0 rfl, hc 1 c1 rfl, hc 2 c2 rfl, FK.move (fun k hk => ⟨hok k hk, rfl⟩) f _ h2⟩, FC.toFKs hok hb (i + 1) h3 fun j u hu => ?_⟩
    have := hc (j + 3) u (by simpa using hu)
    rwa [show o + i * 3 + (j + 3) = o + (i + 1) * 3 + j from by omega] at this
def Bag (base : Nat) (w : World) (v : Value) (L : List F) : Prop :=
  ∃ cs, w.ownsRow base 52 3 v L.length cs ∧ FC (fun b => base ≤ b ∧ b < w.heap.size ∧ some b ≠ v.ownBlock) w L cs
theorem Bag.nil (base : Nat) (w : World) : Bag base w (.slice none 0 0) [] := ⟨[], ⟨rfl, .inl ⟨rfl, rfl⟩⟩, rfl⟩
theorem Bag.lt {base : Nat} {w : World} {v : Value} {L : List F} (h : Bag base w v L) (k : Nat) (hk : v.ownBlock = some k) : base ≤ k ∧ k < w.heap.size := by
  obtain ⟨cs, h1, _⟩ := h
  have := h1.lt k hk
  exact ⟨this.1, this.2⟩
theorem Bag.keep {base : Nat} {w w' : World} {v : Value} {L : List F} (h : Bag base w v L) (hk : ∀ b, base ≤ b → b < w.heap.size → w'.heap[b]? = w.heap[b]?) (hs : w.heap.size ≤ w'.heap.size) : Bag base w' v L := by
  have hlt := h.lt
  obtain ⟨cs, h1, h2⟩ := h
  refine ⟨cs, ?_, FC.move (fun b hb => ⟨⟨hb.1, Nat.lt_of_lt_of_le hb.2.1 hs, hb.2.2⟩, hk b hb.1 hb.2.1⟩) h2⟩
  obtain ⟨k1, k2⟩ := h1
  refine ⟨k1, ?_⟩
  rcases k2 with k2 | ⟨g, cap, cur, e1, e2, e3, e4⟩
  · exact .inl k2
  · have := hlt g (by rw [e1]; rfl)
    exact .inr ⟨g, cap, cur, e1, e2, (hk g e2 this.2).trans e3, e4⟩
theorem Bag.push {base : Nat} {w w' : World} {v : Value} {L : List F} {cs : List Value} {f : F} {a b c : Value} {g cap : Nat} (h2 : FC (fun b => base ≤ b ∧ b < w.heap.size ∧ some b ≠ v.ownBlock) w L cs)
    (hf : FK (fun b => base ≤ b ∧ b < w.heap.size ∧ some b ≠ v.ownBlock) w f [a, b, c])
    (ho : w'.ownsRow base 52 3 (.slice (some ⟨g, 0, none⟩) (L.length + 1) cap) (L.length + 1) (cs ++ [a, b, c])) (hg : w.grownBy w' v.ownBlock) (hv : v.ownBlock = some g ∨ w.heap.size ≤ g) :
    Bag base w' (.slice (some ⟨g, 0, none⟩) (L.length + 1) cap) (L ++ [f]) := by
  have hm : ∀ b, (base ≤ b ∧ b < w.heap.size ∧ some b ≠ v.ownBlock) → (base ≤ b ∧ b < w'.heap.size ∧ some b ≠ (Value.slice (some ⟨g, 0, none⟩) (L.length + 1) cap).ownBlock) ∧ w'.heap[b]? = w.heap[b]? := by
    intro b ⟨h1, h2, h3⟩
    refine ⟨⟨h1, Nat.lt_of_lt_of_le h2 hg.size, ?_⟩, hg.block b h2 h3⟩
    show some b ≠ some g
    intro e
    injection e with e
    subst e
    rcases hv with hv | hv
    · exact h3 hv.symm
    · omega
  have e : (L ++ [f]).length = L.length + 1 := by simp
  exact ⟨cs ++ [a, b, c], by rw [e]; exact ho, FC.snoc (FK.move hm f _ hf) (FC.move hm h2)⟩
theorem Bag.form {base : Nat} {w : World} {v : Value} {L : List F} (h : Bag base w v L) : ∃ A c, v = .slice A L.length c ∧ L.length ≤ c ∧ c ≤ maxLen ∧ FKs (fun b => base ≤ b ∧ b < w.heap.size) w A 0 L := by
  have hlt := h.lt
  obtain ⟨cs, ⟨k1, k2⟩, h2⟩ := h
  rcases k2 with ⟨rfl, h0⟩ | ⟨g, cap, cur, rfl, e2, e3, e4, e5, e6, e7⟩
  · obtain rfl : L = [] := List.eq_nil_of_length_eq_zero h0
    exact ⟨none, 0, rfl, Nat.le_refl _, by decide, by unfold FKs; trivial⟩
  · refine ⟨some ⟨g, 0, none⟩, cap, rfl, e4, e5, FC.toFKs (fun k hk => ⟨hk.1, hk.2.1⟩) (hlt g rfl) 0 h2 fun j u hu => ?_⟩
    have hj : j < L.length * 3 := by
      rw [← k1]
      exact (List.getElem?_eq_some_iff.1 hu).1
    rw [show 0 + 0 * 3 + j = j from by omega, cell_of e3]
    rw [← e7, List.getElem?_take, if_pos hj, Array.getElem?_toList] at hu
    exact hu
mutual
def F.small : F → Bool
  | .mk _ t l => decide (t.length ≤ 65536) && decide (l.length ≤ 65536) && smalls l
def smalls : List F → Bool
  | [] => true
  | f :: l => f.small && smalls l
end
theorem smalls_append : ∀ {a b : List F}, smalls (a ++ b) = (smalls a && smalls b)
  | [], b => by rw [List.nil_append, smalls, Bool.true_and]
  | f :: a, b => by rw [List.cons_append, smalls, smalls, smalls_append, Bool.and_assoc]
theorem small_txt (t : List UInt8) (h : t.length ≤ 65536) : (txt t).small = true := by
  unfold txt F.small smalls
  simp [h]
theorem small_lst (l : List F) (hl : l.length ≤ 65536) (h : smalls l = true) : (F.mk true [] l).small = true := by
  rw [F.small, h, decide_eq_true hl]
  rfl
theorem list_head {f : F} {x s : List UInt8} (hf : f.right = true) (h : 40 :: s = f.bytes ++ x) : ∃ gs, f = .mk true [] gs ∧ rights gs = true ∧ s = bytess gs ++ 41 :: x := by
  obtain ⟨b, t, l⟩ := f
  cases b with
  | true =>
    unfold F.right at hf
    simp only [Bool.and_eq_true] at hf
    have ht : t = [] := by simpa using hf.1
    subst ht
    unfold F.bytes at h
    simp only [List.cons_append, List.append_assoc, List.cons.injEq, true_and, List.nil_append] at h
    exact ⟨l, rfl, hf.2, h⟩
  | false =>
    unfold F.right at hf
    have : l = [] := by simpa using hf
    subst this
    obtain ⟨c, r, h1, h2⟩ := text_head t
    rw [h1] at h
    simp only [List.cons_append, List.cons.injEq] at h
    rw [← h.1] at h2
    simp at h2
theorem text_form {f : F} {x s : List UInt8} (hf : f.right = true) (h : s = f.bytes ++ x) (h0 : s[0]? ≠ some 40) : ∃ t, f = txt t ∧ s = Lib.decDigits t.length ++ 58 :: (t ++ x) := by
  obtain ⟨b, t, l⟩ := f
  cases b with
  | true =>
    exfalso
    unfold F.bytes at h
    rw [h] at h0
    simp at h0
  | false =>
    unfold F.right at hf
    have : l = [] := by simpa using hf
    subst this
    refine ⟨t, rfl, ?_⟩
    rw [h, F.bytes]
    simp
def ItemSpec (deep : Nat) (s : List UInt8) (f : F) (ok : Bool) (r : List UInt8) : Prop :=
  (r.length ≤ s.length ∧ (ok = true → f.small = true)) ∧ (ok = true → r.length < s.length) ∧ ∀ f' x, f'.right = true → f'.depth + deep ≤ 8 → s = f'.bytes ++ x → ok = true ∧ f = f' ∧ r = x
def LoopSpec (deep : Nat) (s : List UInt8) (L : List F) (r : List UInt8) : Prop :=
  (r.length + L.length ≤ s.length ∧ smalls L = true) ∧ ∀ gs x, rights gs = true → depths gs + 1 + deep ≤ 8 → s = bytess gs ++ 41 :: x → ∃ more, gs = L ++ more ∧ r = bytess more ++ 41 :: x
theorem loop_zero (deep : Nat) (s : List UInt8) : LoopSpec deep s [] s := ⟨⟨by simp, by rw [smalls]⟩, fun gs x _ _ h => ⟨gs, rfl, h⟩⟩
theorem rights_append : ∀ {a b : List F}, rights (a ++ b) = (rights a && rights b)
  | [], b => rfl
  | f :: a, b => by rw [List.cons_append, rights, rights, rights_append, Bool.and_assoc]
theorem depths_append : ∀ {a b : List F}, depths (a ++ b) = max (depths a) (depths b)
  | [], b => by simp [depths]
  | f :: a, b => by rw [List.cons_append, depths, depths, depths_append, Nat.max_assoc]
theorem loop_split {deep : Nat} {s : List UInt8} {L : List F} {r : List UInt8} (h : LoopSpec deep s L r) (h0 : r[0]? ≠ some 41) {gs : List F} {x : List UInt8} (hr : rights gs = true) (hd : depths gs + 1 + deep ≤ 8) (hs : s = bytess gs ++ 41 :: x) :
    ∃ m ms, gs = L ++ m :: ms ∧ m.right = true ∧ m.depth + (deep + 1) ≤ 8 ∧ r = m.bytes ++ (bytess ms ++ 41 :: x) := by
  obtain ⟨more, h1, h2⟩ := h.2 gs x hr hd hs
  cases more with
  | nil =>
    exfalso
    rw [h2] at h0
    simp [bytess] at h0
  | cons m ms =>
    rw [h1, rights_append, Bool.and_eq_true, rights, Bool.and_eq_true] at hr
    rw [h1, depths_append, depths] at hd
    refine ⟨m, ms, h1, hr.2.1, by omega, ?_⟩
    rw [h2, bytess, List.append_assoc]
theorem loop_step {deep : Nat} {s : List UInt8} {L : List F} {r r' : List UInt8} {f : F} (h : LoopSpec deep s L r) (h0 : r[0]? ≠ some 41) (hi : ItemSpec (deep + 1) r f true r') : LoopSpec deep s (L ++ [f]) r' := by
  refine ⟨⟨by have := h.1.1; have := hi.2.1 rfl; simp; omega, by rw [smalls_append, h.1.2, smalls, smalls, hi.1.2 rfl]; rfl⟩, fun gs x hr hd hs => ?_⟩
  obtain ⟨m, ms, h1, h2, h3, h4⟩ := loop_split h h0 hr hd hs
  obtain ⟨_, rfl, rfl⟩ := hi.2.2 m _ h2 h3 h4
  exact ⟨ms, by simp [h1], rfl⟩
theorem item_fail {deep : Nat} {s : List UInt8} {L : List F} {r r' : List UInt8} {f : F} (h : LoopSpec deep s L r) (h0 : r[0]? ≠ some 41) (hi : ItemSpec (deep + 1) r f false r') (f0 : F) : ItemSpec deep (40 :: s) f0 false r' := by
  refine ⟨⟨by have := h.1.1; have := hi.1.1; simp; omega, fun h => (by cases h)⟩, fun h => (by cases h), fun f' x hr hd hs => ?_⟩
  exfalso
  obtain ⟨gs, rfl, h1, h2⟩ := list_head hr hs
  unfold F.depth at hd
  obtain ⟨m, ms, _, h4, h5, h6⟩ := loop_split h h0 h1 (by omega) h2
  exact absurd (hi.2.2 m _ h4 h5 h6).1 (by simp)
theorem item_stop {deep : Nat} {s : List UInt8} {L : List F} {r : List UInt8} (h : LoopSpec deep s L r) (h0 : 8 ≤ deep ∨ r = []) (f0 : F) : ItemSpec deep (40 :: s) f0 false r := by
  refine ⟨⟨by have := h.1.1; simp; omega, fun h => (by cases h)⟩, fun h => (by cases h), fun f' x hr hd hs => ?_⟩
  exfalso
  obtain ⟨gs, rfl, h1, h2⟩ := list_head hr hs
  unfold F.depth at hd
  rcases h0 with h0 | h0
  · omega
  · obtain ⟨more, _, h4⟩ := h.2 gs x h1 (by omega) h2
    rw [h0] at h4
    simp at h4
theorem item_end {deep : Nat} {s : List UInt8} {L : List F} {r : List UInt8} (h : LoopSpec deep s L (41 :: r)) (hb : L.length ≤ 65536) : ItemSpec deep (40 :: s) (.mk true [] L) true r := by
  have hl := h.1.1
  simp only [List.length_cons] at hl
  refine ⟨⟨by simp; omega, fun _ => small_lst L hb h.1.2⟩, fun _ => by simp; omega, fun f' x hr hd hs => ?_⟩
  obtain ⟨gs, rfl, h1, h2⟩ := list_head hr hs
  unfold F.depth at hd
  obtain ⟨more, h3, h4⟩ := h.2 gs x h1 (by omega) h2
  cases more with
  | nil =>
    simp only [bytess, List.nil_append, List.cons.injEq, true_and] at h4
    rw [h3, List.append_nil]
    exact ⟨rfl, rfl, h4⟩
  | cons m ms =>
    exfalso
    rw [h3, rights_append, Bool.and_eq_true, rights, Bool.and_eq_true] at h1
    obtain ⟨c, q, h5, h6⟩ := form_head m h1.2.1
    rw [bytess, h5] at h4
    simp only [List.cons_append, List.cons.injEq] at h4
    rw [← h4.1] at h6
    simp at h6
theorem bytes_len (t : List UInt8) : t.length ≤ (txt t).bytes.length := by
  unfold txt F.bytes
  simp; omega
theorem item_text {deep : Nat} {s r : List UInt8} {n : Int} {ok : Bool} (h0 : s[0]? ≠ some 40) (hs : s.length ≤ 65536) (h : LenSpec s n ok r) (hok : ok = true) : ItemSpec deep s (txt (r.take n.toNat)) true (r.drop n.toNat) := by
  obtain ⟨h1, h2, h3⟩ := h
  obtain ⟨h4, h5, h6⟩ := h2 hok
  refine ⟨⟨by rw [List.length_drop]; omega, fun _ => small_txt _ (by rw [List.length_take]; omega)⟩, fun _ => by rw [List.length_drop]; omega, fun f' x hr hd hs' => ?_⟩
  obtain ⟨t, rfl, h7⟩ := text_form hr hs' h0
  have ht := bytes_len t
  have : s.length = ((txt t).bytes ++ x).length := by rw [hs']
  rw [List.length_append] at this
  obtain ⟨_, rfl, rfl⟩ := h3 t x (by omega) h7
  rw [show ((t.length : Int)).toNat = t.length from by omega, List.take_left' rfl, List.drop_left' rfl]
  exact ⟨rfl, rfl, rfl⟩
theorem item_notext {deep : Nat} {s r : List UInt8} {n : Int} {ok : Bool} (h0 : s[0]? ≠ some 40) (hs : s.length ≤ 65536) (h : LenSpec s n ok r) (hok : ok = false) (f0 : F) : ItemSpec deep s f0 false r := by
  obtain ⟨h1, h2, h3⟩ := h
  refine ⟨⟨h1, fun h => (by cases h)⟩, fun h => (by cases h), fun f' x hr hd hs' => ?_⟩
  exfalso
  obtain ⟨t, rfl, h7⟩ := text_form hr hs' h0
  have ht := bytes_len t
  have : s.length = ((txt t).bytes ++ x).length := by rw [hs']
  rw [List.length_append] at this
  have := (h3 t x (by omega) h7).1
  rw [hok] at this
  cases this
end Go.Proofs.YtbefkoljcacpcaaGreatDoor.Tm
set_option linter.unusedVariables false
namespace Go.Proofs.YtbefkoljcacpcaaGreatDoor.Tm
open Go
def RInv (s : List UInt8) (k n : Nat) : Prop := k ≤ s.length ∧ k ≤ 6 ∧ n = val (s.take k) ∧ n < 10 ^ k ∧ ∀ j, j < k → ∀ c, s[j]? = some c → isD c
theorem rinv_zero (s : List UInt8) : RInv s 0 0 := ⟨Nat.zero_le _, by omega, rfl, by decide, fun j hj => absurd hj (by omega)⟩
theorem rinv_le {s : List UInt8} {k n : Nat} (h : RInv s k n) : n < 1000000 := by
  have h1 : 10 ^ k ≤ 10 ^ 6 := Nat.pow_le_pow_right (by decide) h.2.1
  have := h.2.2.2.1
  omega
theorem rinv_step {s : List UInt8} {k n : Nat} {c : UInt8} (h : RInv s k n) (hk6 : k < 6) (hc : s[k]? = some c) (hd : isD c) : RInv s (k + 1) (10 * n + (c.toNat - 48)) := by
  obtain ⟨h1, h2, h3, h4, h5⟩ := h
  have hk : k < s.length := (List.getElem?_eq_some_iff.1 hc).1
  refine ⟨by omega, by omega, by rw [take_at hc, val_snoc, ← h3], ?_, fun j hj d hdj => ?_⟩
  · rw [Nat.pow_succ]
    have : c.toNat - 48 ≤ 9 := by unfold isD at hd; omega
    omega
  · by_cases e : j = k
    · subst e; rw [hc] at hdj; rw [← Option.some.inj hdj]; exact hd
    · exact h5 j (by omega) d hdj
theorem dec_len5 (n : Nat) (h : n ≤ 65536) : (Lib.decDigits n).length ≤ 5 := by
  have e : ∀ n, n < 100000 → (Lib.decDigits n).length ≤ 5 := by
    intro n hn
    rw [Lib.decDigits]; split
    · simp
    · rw [List.length_append, Lib.decDigits]; split
      · simp
      · rw [List.length_append, Lib.decDigits]; split
        · simp
        · rw [List.length_append, Lib.decDigits]; split
          · simp
          · rw [List.length_append, Lib.decDigits, dif_pos (by omega)]; simp
  exact e n (by omega)
theorem rinv_end {s t x : List UInt8} {k n : Nat} (h : RInv s k n) (he : k = 6 ∨ k = s.length ∨ ∃ c, s[k]? = some c ∧ ¬ isD c) (ht : t.length ≤ 65536) (hs : s = Lib.decDigits t.length ++ 58 :: (t ++ x)) :
    s[k]? = some 58 ∧ 0 < k ∧ s.take k = Lib.decDigits t.length ∧ s.drop (k + 1) = t ++ x := by
  obtain ⟨h1, h2, h3, h4, h5⟩ := h
  have hle := digs_at hs h5 h1
  have hlt := digs_full hs hle
  have h55 := dec_len5 t.length ht
  rcases he with he | he | ⟨c, hc, hn⟩
  · omega
  · omega
  · obtain ⟨rfl, e2, e3, e4⟩ := digs_end hs hle c hc hn
    exact ⟨hc, e2, e3, e4⟩
theorem rtext_no {deep : Nat} {s : List UInt8} {k n : Nat} (h : RInv s k n) (he : k = 6 ∨ k = s.length ∨ ∃ c, s[k]? = some c ∧ ¬ isD c)
    (hb : k = 0 ∨ (1 < k ∧ s[0]? = some 48) ∨ s.length ≤ k ∨ s[k]? ≠ some 58 ∨ s.length - k - 1 < n) (h0 : s[0]? ≠ some 40) (hs : s.length ≤ 65536) (f0 : F) : ItemSpec deep s f0 false [] := by
  refine ⟨⟨by simp, fun h => (by cases h)⟩, fun h => (by cases h), fun f' x hr hd hs' => ?_⟩
  exfalso
  obtain ⟨t, rfl, h7⟩ := text_form hr hs' h0
  have ht := bytes_len t
  have hl : s.length = ((txt t).bytes ++ x).length := by rw [hs']
  rw [List.length_append] at hl
  obtain ⟨e1, e2, e3, e4⟩ := rinv_end h he (by omega) h7
  have hk : k < s.length := (List.getElem?_eq_some_iff.1 e1).1
  rcases hb with hb | ⟨hb1, hb2⟩ | hb | hb | hb
  · omega
  · have : t.length = 0 := by
      cases hq : Lib.decDigits t.length with
      | nil => exact absurd hq (dec_ne _)
      | cons a q =>
        rw [h7, hq] at hb2
        simp only [List.cons_append, List.getElem?_cons_zero, Option.some.injEq] at hb2
        exact dec_head_zero _ q (by rw [hq, hb2])
    have hd0 : Lib.decDigits 0 = [48] := by rw [Lib.decDigits]; rfl
    have := congrArg List.length e3
    rw [‹t.length = 0›, hd0, List.length_take] at this
    simp at this
    omega
  · omega
  · exact hb e1
  · have h6 := h.2.2.1
    rw [e3, val_dec] at h6
    have := congrArg List.length e4
    rw [List.length_drop, List.length_append] at this
    omega
theorem rtext_yes {deep : Nat} {s : List UInt8} {k n : Nat} (h : RInv s k n) (hc : s[k]? = some 58) (hn : n ≤ s.length - k - 1) (h0 : s[0]? ≠ some 40) (hs : s.length ≤ 65536) :
    ItemSpec deep s (txt ((s.drop (k + 1)).take n)) true (s.drop (k + 1 + n)) := by
  have hk : k < s.length := (List.getElem?_eq_some_iff.1 hc).1
  refine ⟨⟨by rw [List.length_drop]; omega, fun _ => small_txt _ (by rw [List.length_take, List.length_drop]; omega)⟩, fun _ => by rw [List.length_drop]; omega, fun f' x hr hd hs' => ?_⟩
  obtain ⟨t, rfl, h7⟩ := text_form hr hs' h0
  have ht := bytes_len t
  have hl : s.length = ((txt t).bytes ++ x).length := by rw [hs']
  rw [List.length_append] at hl
  obtain ⟨e1, e2, e3, e4⟩ := rinv_end h (.inr (.inr ⟨58, hc, by unfold isD; simp⟩)) (by omega) h7
  have h6 := h.2.2.1
  rw [e3, val_dec] at h6
  have e5 : s.drop (k + 1 + n) = (s.drop (k + 1)).drop n := by rw [List.drop_drop]
  rw [e5, h6, e4, List.take_left' rfl, List.drop_left' rfl]
  exact ⟨rfl, rfl, rfl⟩
theorem item_nil {deep : Nat} {f f0 : F} {s r : List UInt8} (h : ItemSpec deep s f false r) : ItemSpec deep s f0 false [] :=
  ⟨⟨by simp, fun h => (by cases h)⟩, fun h => (by cases h), fun f' x h1 h2 h3 => absurd (h.2.2 f' x h1 h2 h3).1 (by simp)⟩
theorem item_empty (deep : Nat) (f0 : F) : ItemSpec deep [] f0 false [] := by
  refine ⟨⟨by simp, fun h => (by cases h)⟩, fun h => (by cases h), fun f' x hr hd hs => ?_⟩
  obtain ⟨c, q, h1, _⟩ := form_head f' hr
  rw [h1] at hs
  simp at hs
end Go.Proofs.YtbefkoljcacpcaaGreatDoor.Tm
set_option linter.unusedVariables false
set_option linter.unusedSimpArgs false
namespace Go.Proofs.YtbefkoljcacpcaaGreatDoor.Tm
open Go Go.RowKit Go.Proofs.YtbefkoljcacpcaaGreatDoor.B Go.Proofs.YtbefkoljcacpcaaGreatDoor.Bld Go.Proofs.YtbefkoljcacpcaaGreatDoor.Sha
def ItemPost (g deep : Nat) (s : ByteArray) (w : World) (ev : Ending) (w' : World) : Prop :=
  ∃ f c0 c1 c2 ok r, ev = .returned (.tuple #[.agg #[c0, c1, c2], .bool ok]) ∧ FK (fun b => w.heap.size ≤ b ∧ b < w'.heap.size) w' f [c0, c1, c2] ∧ RdAt w' g r ∧ ItemSpec deep s.data.toList f ok r.data.toList ∧ Tch (fun k => k = g) w w'
theorem results_cell_tmp {P : Program} {fn : Func} {p q : Tmp} {ty : TypeId} (h : fn.results = #[.cell p ty, .tmp q]) (tmps : Array Value) (w : World) (g : Nat) (t : TypeId) (cs : Array Value) (fr : Nat × Nat) (d : TypeDesc)
    (hp : tmps.getD p undef = .pointer (some ⟨g, 0, none⟩)) (hg : w.heap[g]? = some (.cells cs t fr))
    (hu : P.underlying ty = some d) (hd : (match d with | .struct _ | .array _ _ => true | _ => false) = true) (hi : (P.info? ty).map (·.size) = some cs.size) (v : Value) (hq : tmps.getD q undef = v) :
    (results fn tmps).run P w = .ok (.tuple #[.agg cs, v]) w := by
  have hp' : tmps[p]?.getD undef = .pointer (some ⟨g, 0, none⟩) := by simpa using hp
  have hq' : tmps[q]?.getD undef = v := by simpa using hq
  simp [results, h, hp', hq', asAddr, run_loadVar_row w g t ty cs fr d hg hu hd hi]
theorem tch_set3 {w w' : World} {S : Nat → Prop} {g : Nat} (h : Tch S w w') (hg : w.heap.size ≤ g) (x y z : Value) : Tch S w (((w'.setCell ⟨g, 0, none⟩ x).setCell ⟨g, 1, none⟩ y).setCell ⟨g, 2, none⟩ z) :=
  ((h.setNew ⟨g, 0, none⟩ hg x).setNew ⟨g, 1, none⟩ hg y).setNew ⟨g, 2, none⟩ hg z
theorem set3_ne {w : World} {g k : Nat} (h : k ≠ g) (x y z : Value) : (((w.setCell ⟨g, 0, none⟩ x).setCell ⟨g, 1, none⟩ y).setCell ⟨g, 2, none⟩ z).heap[k]? = w.heap[k]? := by
  rw [heap_set_ne _ _ _ _ h, heap_set_ne _ _ _ _ h, heap_set_ne _ _ _ _ h]
set_option maxRecDepth 100000 in
set_option maxHeartbeats 4000000 in
theorem item_text_c (g deep : Nat) (s : ByteArray) (w : World) (hg : RdAt w g s) (hs : s.size ≤ 65536) (h0 : s.data.toList[0]? ≠ some 40) :
    Calls Tryz.prog 70 #[.pointer (some ⟨g, 0, none⟩), .int .i64 deep] w (ItemPost g deep s w) := by
  obtain ⟨w0, hw0⟩ : ∃ w0, w0 = w.alloc (.cells #[.bool false, .string ⟨#[]⟩, .slice none 0 0] 52) := ⟨_, rfl⟩
  have hg0 : RdAt w0 g s := by rw [hw0]; unfold RdAt; rw [heap_alloc_lt _ _ _ (heap_lt hg)]; exact hg
  have hr0 : w0.heap[w.heap.size]? = some (.cells #[.bool false, .string ⟨#[]⟩, .slice none 0 0] 52 (0, 0)) := by rw [hw0]; exact heap_alloc_at _ _
  have ht0 : Tch (fun k => k = g) w w0 := by rw [hw0]; exact (Tch.refl _ _).alloc _
  have hne : w.heap.size ≠ g := by have := heap_lt hg; omega
  have hc0 : w0.cell? ⟨g, 0, none⟩ = some (.string s) := by rw [cell_of hg0]; rfl
  have CP := Tryz.strings_HasPrefix s ⟨#[40]⟩ w0
  have hpre : Lib.hasPrefix s.data.toList (⟨#[40]⟩ : ByteArray).data.toList = false := by
    show [40].isPrefixOf s.data.toList = false
    generalize s.data.toList = l at *
    cases l with
    | nil => rfl
    | cons a l =>
      simp only [List.getElem?_cons_zero, ne_eq, Option.some.injEq] at h0
      simp [List.isPrefixOf]
      intro e; exact absurd e.symm h0
  rw [hpre] at CP
  have CL := length_c g s w0 hg0 hs
  have CPH := Lib.hid CP
  have CLH := Lib.hid CL
  have hsz0 : w0.heap.size = w.heap.size + 1 := by rw [hw0]; simp
  replace hg0 := Lib.hid hg0
  replace hr0 := Lib.hid hr0
  replace ht0 := Lib.hid ht0
  replace hne := Lib.hid hne
  replace h0 := Lib.hid h0
  replace hsz0 := Lib.hid hsz0
  replace hs := Lib.hid hs
  clear CP CL hpre hg
  go_enter Tryz.func70, Tryz.ntmps70
  go_upto_region 1 with fail
  rw [← hw0]
  replace hw0 := Lib.hid hw0
  go_wp2_with fail
  refine (CPH.out).mono ?_
  rintro ev w1 ⟨rfl, rfl⟩
  go_wp2_with fail
  refine (CLH.out).mono ?_
  rintro ev w2 ⟨n, ok, r, rfl, hg2, hl2, ht2⟩
  have hr2 := Lib.hid (ht2.heap hr0.out hne.out)
  have ht2H := Lib.hid (ht0.out.trans ht2)
  have hg2H := Lib.hid hg2
  have hrs : r.size ≤ s.size := by have := hl2.1; rwa [toList_size, toList_size] at this
  have hlt : w.heap.size < w2.heap.size := Nat.lt_of_lt_of_le (by rw [hsz0.out]; omega) ht2.size
  have hc2 : w2.cell? ⟨g, 0, none⟩ = some (.string r) := by rw [cell_of hg2]; rfl
  have hf2 : w2.frozen? ⟨g, 0, none⟩ = false := fr_of hg2 0
  clear ht2 hg2
  cases ok with
  | false =>
    have hsp := Lib.hid (item_notext (deep := deep) h0.out (by rw [toList_size]; exact hs.out) hl2 rfl (.mk false [] []))
    clear hl2
    have k0 : w2.cell? ⟨w.heap.size, 0, none⟩ = some (.bool false) := by rw [cell_of hr2.out]; rfl
    have k1 : w2.cell? ⟨w.heap.size, 1, none⟩ = some (.string ⟨#[]⟩) := by rw [cell_of hr2.out]; rfl
    have k2 : w2.cell? ⟨w.heap.size, 2, none⟩ = some (.slice none 0 0) := by rw [cell_of hr2.out]; rfl
    have hsh : w2.shape? w.heap.size = some (52, 3) := by simp [World.shape?, hr2.out]
    have hfz := fr_of hr2.out
    go_wp2_with fail
    (try simp only [Exit.inBlock, Exit.then])
    refine bodyPost_ret (results_cell_tmp rfl _ _ w.heap.size 52 #[.bool false, .string ⟨#[]⟩, .slice none 0 0] (0, 0) _ rfl (set3 hr2.out) Tryz.underlying52 rfl (by kernel_rfl) _ rfl) rfl ?_
    refine ⟨.mk false [] [], _, _, _, false, r, rfl, FK.text _ _ ⟨#[]⟩, ?_, hsp.out, tch_set3 ht2H.out (Nat.le_refl _) _ _ _⟩
    unfold RdAt
    rw [set3_ne (fun e => hne.out e.symm)]
    exact hg2H.out
  | true =>
    obtain ⟨hn0, hnr, _⟩ := hl2.2.1 rfl
    obtain ⟨m, rfl⟩ : ∃ m : Nat, n = (m : Int) := ⟨n.toNat, by omega⟩
    have hmr : m ≤ r.size := by rw [toList_size] at hnr; omega
    have hmri : (m : Int) ≤ (r.size : Int) := by omega
    have hsp := Lib.hid (item_text (deep := deep) h0.out (by rw [toList_size]; exact hs.out) hl2 rfl)
    rw [show ((m : Int)).toNat = m from by omega] at hsp
    clear hl2 hn0 hnr
    go_wp2_with fail
    refine (text_c _ w2).mono ?_
    rintro ev w3 ⟨rfl, hb3⟩
    unfold vtext
    have ht3 := Lib.hid (ht2H.out.trans (Tch.of_new (S := fun k => k = g) hb3))
    have hr3 := (hb3.block _ (heap_lt hr2.out)).trans hr2.out
    have hg3 : RdAt w3 g r := (hb3.block _ (heap_lt hg2H.out)).trans hg2H.out
    obtain ⟨w4, hw4⟩ : ∃ w4, w4 = w3.alloc (.cells #[.bool false, .string (r.extract 0 m), .slice none 0 0] 52) := ⟨_, rfl⟩
    have hx4 : w4.heap[w3.heap.size]? = some (.cells #[.bool false, .string (r.extract 0 m), .slice none 0 0] 52 (0, 0)) := by rw [hw4]; exact heap_alloc_at _ _
    have hr4 := Lib.hid (show w4.heap[w.heap.size]? = some (.cells #[.bool false, .string ⟨#[]⟩, .slice none 0 0] 52 (0, 0)) from by rw [hw4, heap_alloc_lt _ _ _ (heap_lt hr3)]; exact hr3)
    have hg4 := Lib.hid (show RdAt w4 g r by unfold RdAt; rw [hw4, heap_alloc_lt _ _ _ (heap_lt hg3)]; exact hg3)
    have ht4 := Lib.hid (show Tch (fun k => k = g) w w4 by rw [hw4]; exact ht3.out.alloc _)
    have j0 : w4.cell? ⟨w3.heap.size, 0, none⟩ = some (.bool false) := by rw [cell_of hx4]; rfl
    have j1 : w4.cell? ⟨w3.heap.size, 1, none⟩ = some (.string (r.extract 0 m)) := by rw [cell_of hx4]; rfl
    have j2 : w4.cell? ⟨w3.heap.size, 2, none⟩ = some (.slice none 0 0) := by rw [cell_of hx4]; rfl
    have k0 : w4.cell? ⟨w.heap.size, 0, none⟩ = some (.bool false) := by rw [cell_of hr4.out]; rfl
    have k1 : w4.cell? ⟨w.heap.size, 1, none⟩ = some (.string ⟨#[]⟩) := by rw [cell_of hr4.out]; rfl
    have k2 : w4.cell? ⟨w.heap.size, 2, none⟩ = some (.slice none 0 0) := by rw [cell_of hr4.out]; rfl
    have hsh : w4.shape? w.heap.size = some (52, 3) := by simp [World.shape?, hr4.out]
    have hfz := fr_of hr4.out
    have hc4 : w4.cell? ⟨g, 0, none⟩ = some (.string r) := by rw [cell_of hg4.out]; rfl
    have hf4 : w4.frozen? ⟨g, 0, none⟩ = false := fr_of hg4.out 0
    have hq := heap_lt hg3
    have hq2 := heap_lt hr3
    have hn1 : ¬ g = w3.heap.size := by omega
    have hn2 : ¬ w3.heap.size = g := by omega
    have hn3 : ¬ w.heap.size = w3.heap.size := by omega
    have hn4 : ¬ w3.heap.size = w.heap.size := by omega
    have hn5 : ¬ w.heap.size = g := hne.out
    have hn6 : ¬ g = w.heap.size := fun e => hne.out e.symm
    clear hr3 hg3 hb3 hx4
    go_upto_region 16 with fail
    rw [← hw4]
    replace hw4 := Lib.hid hw4
    go_wp2_with fail
    (try simp only [Exit.inBlock, Exit.then])
    have hr5 : (w4.setCell ⟨g, 0, none⟩ (.string (r.extract m r.size))).heap[w.heap.size]? = some (.cells #[.bool false, .string ⟨#[]⟩, .slice none 0 0] 52 (0, 0)) := by
      rw [heap_set_ne _ _ _ _ hn5]; exact hr4.out
    refine bodyPost_ret (results_cell_tmp rfl _ _ w.heap.size 52 #[.bool false, .string (r.extract 0 m), .slice none 0 0] (0, 0) _ rfl (set3 hr5) Tryz.underlying52 rfl (by kernel_rfl) _ rfl) rfl ?_
    have e1 : (r.extract 0 m).data.toList = r.data.toList.take m := by rw [Lib.extract_data]; simp
    refine ⟨txt (r.data.toList.take m), _, _, _, true, r.extract m r.size, rfl, by rw [← e1]; exact FK.text _ _ _, ?_, by rw [extract_toList]; exact hsp.out, tch_set3 (ht4.out.setCell ⟨g, 0, none⟩ (fun _ => rfl) _) (Nat.le_refl _) _ _ _⟩
    unfold RdAt
    rw [set3_ne (fun e => hne.out e.symm)]
    exact rdAt_set hg4.out _
end Go.Proofs.YtbefkoljcacpcaaGreatDoor.Tm
set_option linter.unusedVariables false
namespace Go.Proofs.YtbefkoljcacpcaaGreatDoor.Tm
open Go Go.Lib
def valFrom (a : Nat) (l : List UInt8) : Nat := l.foldl (fun a c => 10 * a + (c.toNat - 48)) a
theorem valFrom_ge : ∀ (l : List UInt8) (a : Nat), a ≤ valFrom a l
  | [], a => Nat.le_refl _
  | c :: l, a => by
    have := valFrom_ge l (10 * a + (c.toNat - 48))
    show a ≤ valFrom (10 * a + (c.toNat - 48)) l
    omega
theorem parse_digits : ∀ (l : List UInt8) (a : Nat), (∀ c ∈ l, isD c) → valFrom a l < 18446744073709551616 → parseUint10 a l = .ok (valFrom a l)
  | [], a, _, _ => rfl
  | c :: l, a, hd, hv => by
    have h1 : 48 ≤ c.toNat ∧ c.toNat ≤ 57 := hd c (by simp)
    have e : valFrom a (c :: l) = valFrom (10 * a + (c.toNat - 48)) l := rfl
    rw [e] at hv ⊢
    have h2 := valFrom_ge l (10 * a + (c.toNat - 48))
    unfold parseUint10
    rw [if_pos h1, if_neg (by omega), if_neg (by omega), show a * 10 + (c.toNat - 48) = 10 * a + (c.toNat - 48) from by omega]
    exact parse_digits l _ (fun d hd' => hd d (by simp [hd'])) hv
theorem parseMag_dec (k : Nat) (h : k < 18446744073709551616) : parseMag (decDigits k) = .ok k := by
  have e : valFrom 0 (decDigits k) = k := val_dec k
  unfold parseMag
  rw [if_neg (dec_ne k), parse_digits (decDigits k) 0 (fun c hc => dec_digit k c hc) (by rw [e]; exact h), e]
theorem atoi_itoa (n : Int) (h0 : -9223372036854775808 ≤ n) (h1 : n ≤ 9223372036854775807) : atoiAll (itoa n) = .ok n := by
  by_cases hn : 0 ≤ n
  · obtain ⟨k, rfl⟩ : ∃ k : Nat, n = (k : Int) := ⟨n.toNat, by omega⟩
    rw [itoa_nonneg]
    obtain ⟨c, r, hc⟩ := List.exists_cons_of_ne_nil (dec_ne k)
    have hd := dec_digit k c (by rw [hc]; simp)
    have hp := parseMag_dec k (by omega)
    rw [hc] at hp ⊢
    rw [atoiAll_plain c r (by omega) (by omega), hp]
    unfold signless
    simp only []
    rw [if_neg (by omega)]
  · obtain ⟨k, rfl, hk⟩ : ∃ k : Nat, n = -(k : Int) ∧ 1 ≤ k := ⟨(-n).toNat, by omega, by omega⟩
    rw [itoa_neg k hk, atoiAll_minus, parseMag_dec k (by omega)]
    unfold signed
    simp only []
    rw [if_neg (by omega)]
theorem atoiSat_bounds (l : List UInt8) : -9223372036854775808 ≤ atoiSat l ∧ atoiSat l ≤ 9223372036854775807 := by
  unfold atoiSat
  split <;> omega
end Go.Proofs.YtbefkoljcacpcaaGreatDoor.Tm
set_option linter.unusedVariables false
set_option linter.unusedSimpArgs false
namespace Go.Proofs.YtbefkoljcacpcaaGreatDoor.Tm
open Go Go.RowKit Go.Proofs.YtbefkoljcacpcaaGreatDoor.B Go.Proofs.YtbefkoljcacpcaaGreatDoor.Bld
def Errs (w : World) : Prop := (∃ ev, w.cell? ⟨3, 0, none⟩ = some ev ∧ (ev = .nilIface ∨ ∃ te pe, ev = .iface te pe)) ∧ ∃ ev, w.cell? ⟨4, 0, none⟩ = some ev ∧ (ev = .nilIface ∨ ∃ te pe, ev = .iface te pe)
theorem Errs.below {w w' : World} (h : Errs w) (hb : Below w.heap.size w w') : Errs w' := by
  obtain ⟨⟨e1, h1, k1⟩, e2, h2, k2⟩ := h
  exact ⟨⟨e1, (hb.cell (World.block_lt_of_cell? w _ h1)).trans h1, k1⟩, e2, (hb.cell (World.block_lt_of_cell? w _ h2)).trans h2, k2⟩
theorem below_bytes (w : World) (e : TypeId) (s : ByteArray) : Below w.heap.size w (Lib.bytesWorld w e s) := by
  unfold Lib.bytesWorld
  have h : Below w.heap.size w (w.drew.alloc (.cells (Lib.bytesCells w e s) e)) := ((Below.refl w.heap.size w).drew).alloc (Nat.le_refl _) _
  refine ⟨h.os, h.tape, h.output, ?_, fun k hk => ?_⟩
  · simp [World.freeze]
  · rw [← h.block k hk]
    simp [World.freeze, Array.getElem?_modify]
    intro e; omega
def AtoiPost (s : ByteArray) (w : World) (ev : Ending) (w' : World) : Prop :=
  ∃ x er, ev = .returned (.tuple #[.int .i64 x, er]) ∧ (er = .nilIface ∨ ∃ N, er = .iface 174 (.pointer (some ⟨N, 0, none⟩))) ∧ (-9223372036854775808 ≤ x ∧ x ≤ 9223372036854775807) ∧
    (∀ n, -9223372036854775808 ≤ n → n ≤ 9223372036854775807 → s.data.toList = Lib.itoa n → er = .nilIface ∧ x = n) ∧ Below w.heap.size w w'
theorem atoi_any (s : ByteArray) (hs : s.size ≤ 140737488355328) (w : World) (he : Errs w) : Calls Tryz.prog 71 #[.string s] w (AtoiPost s w) := by
  obtain ⟨⟨e1, h1, k1⟩, e2, h2, k2⟩ := he
  cases h : Lib.atoiAll s.data.toList with
  | ok v =>
    refine (Tryz.strconv_Atoi_ok s (by omega) v h w).mono ?_
    rintro ev w' ⟨rfl, hw⟩
    refine ⟨v, _, rfl, .inl rfl, Lib.atoiAll_bounds h, fun n n0 n1 hn => ⟨rfl, ?_⟩, ?_⟩
    · rw [hn, atoi_itoa n n0 n1] at h
      injection h with h
      exact h.symm
    · rcases hw with rfl | ⟨t, rfl⟩
      · exact Below.refl _ _
      · exact below_bytes _ _ _
  | «syntax» =>
    refine (Tryz.strconv_Atoi_syntax s (by omega) h e1 w h1 k1).mono ?_
    rintro ev w' ⟨N, rfl, _, _, hb⟩
    refine ⟨_, _, rfl, .inr ⟨N, rfl⟩, by omega, fun n n0 n1 hn => ?_, hb⟩
    rw [hn, atoi_itoa n n0 n1] at h
    cases h
  | range =>
    refine (Tryz.strconv_Atoi_range s (by omega) h e2 w h2 k2).mono ?_
    rintro ev w' ⟨N, rfl, _, _, hb⟩
    refine ⟨_, _, rfl, .inr ⟨N, rfl⟩, atoiSat_bounds _, fun n n0 n1 hn => ?_, hb⟩
    rw [hn, atoi_itoa n n0 n1] at h
    cases h
theorem itoa_int (n : Int) (h0 : -9223372036854775808 ≤ n) (h1 : n ≤ 9223372036854775807) (w : World) (h : Tab w) :
    Calls Tryz.prog 39 #[.int .i64 n] w fun e w' => e = .returned (.string ⟨(Lib.itoa n).toArray⟩) ∧ Below w.heap.size w w' := by
  refine (Tryz.strconv_Itoa n h0 h1 w h).mono ?_
  rintro e w' ⟨rfl, k, os, rfl⟩
  exact ⟨rfl, grow_below w k os⟩
def errno (n : Int) : Value := .iface 48 (.int .i64 n)
def NumPost (fb : Bool) (t : ByteArray) (nl : Nat) (least most : Int) (w : World) (ev : Ending) (w' : World) : Prop :=
  ∃ x er, ev = .returned (.tuple #[.int .i64 x, er]) ∧ (er = .nilIface ∨ er = errno 5) ∧ (er = .nilIface → least ≤ x ∧ x ≤ most) ∧
    (∀ n, least ≤ n → n ≤ most → fb = false → nl = 0 → t.data.toList = Lib.itoa n → er = .nilIface ∧ x = n) ∧ Below w.heap.size w w'
def NumBad (er : Value) (fb : Bool) (nl : Nat) (x : Int) (t : ByteArray) (least most : Int) (bad : Bool) : Prop :=
  (bad = false → er = .nilIface ∧ least ≤ x ∧ x ≤ most) ∧ (er = .nilIface → fb = false → nl = 0 → t.data.toList = Lib.itoa x → least ≤ x → x ≤ most → bad = false)
set_option maxRecDepth 100000 in
set_option maxHeartbeats 8000000 in
theorem number_c (fb : Bool) (t : ByteArray) (A : Option Addr) (nl c : Nat) (least most : Int) (hlo : -9223372036854775808 ≤ least) (hmo : most ≤ 9223372036854775807) (ht : t.size ≤ 140737488355328) (hnl : nl ≤ 140737488355328) (w : World) (he : Errs w) (htab : Tab w) :
    Calls Tryz.prog 46 #[.agg #[.bool fb, .string t, .slice A nl c], .int .i64 least, .int .i64 most] w (NumPost fb t nl least most w) := by
  obtain ⟨w0, hw0⟩ : ∃ w0, w0 = w.alloc (.cells #[.bool fb, .string t, .slice A nl c] 52) := ⟨_, rfl⟩
  have hb0 : Below w.heap.size w w0 := by rw [hw0]; exact (Below.refl _ _).alloc (Nat.le_refl _) _
  have hx0 : w0.heap[w.heap.size]? = some (.cells #[.bool fb, .string t, .slice A nl c] 52 (0, 0)) := by rw [hw0]; exact heap_alloc_at _ _
  have hc0 : w0.cell? ⟨w.heap.size, 1, none⟩ = some (.string t) := by rw [cell_of hx0]; rfl
  have CA := Lib.hid (atoi_any t ht w0 (he.below hb0))
  replace hx0 := Lib.hid hx0
  replace hb0 := Lib.hid hb0
  replace htab := Lib.hid htab
  clear he
  go_enter Tryz.func46, Tryz.ntmps46
  go_upto_region 1 with fail
  rw [← hw0]
  replace hw0 := Lib.hid hw0
  go_wp2_with fail
  refine (CA.out).mono ?_
  rintro ev w1 ⟨x, er, rfl, her, hx, hsp, hb1⟩
  have hx1 := (hb1.block _ (heap_lt hx0.out)).trans hx0.out
  have k0 := Lat.cell (show w1.cell? ⟨w.heap.size, 0, none⟩ = some (.bool fb) by rw [cell_of hx1]; rfl)
  have k1 := Lat.cell (show w1.cell? ⟨w.heap.size, 1, none⟩ = some (.string t) by rw [cell_of hx1]; rfl)
  have k2 := Lat.cell (show w1.cell? ⟨w.heap.size, 2, none⟩ = some (.slice A nl c) by rw [cell_of hx1]; rfl)
  go_upto_region 2 with fail
  have htab1 := Lib.hid ((htab.out.below hb0.out (Nat.le_refl _)).below hb1 (Nat.le_refl _))
  have CI := fun (y : Lat w1) => Lib.hid (itoa_int x hx.1 hx.2 y.val (htab1.out.below y.below (Nat.le_refl _)))
  have hspH := Lib.hid hsp
  have hb1H := Lib.hid hb1
  have hxH := Lib.hid hx
  clear hsp hb1 hx1 hx
  go_cut [44] (fun v wc => ∃ bad, v = .bool bad ∧ NumBad er fb nl x t least most bad ∧ Below w1.heap.size w1 wc)
  case first =>
    rcases her with rfl | ⟨N, rfl⟩
    · cases fb with
      | true =>
        refine wp_region_lat (by kernel_rfl) (by kernel_rfl) ?_
        repeat (go_big_quiet_step ((go_at_call 39; exact lat_of (CI _).out)))
        refine wpQuiet_nil ?_
        intro _ hw'
        obtain ⟨xl, hw''⟩ := hw'
        subst hw''
        go_wp2_with fail
        go_meet
        case rel => exact ⟨_, rfl, ⟨fun h => (by cases h), fun h1 h2 h3 h4 h5 h6 => (by cases h2)⟩, xl.below⟩
      | false =>
        by_cases hn0 : nl = 0
        · subst hn0
          have q0 : ¬ (0 : Int) < ((0 : Nat) : Int) := by omega
          by_cases hit : t.data.toList = Lib.itoa x
          · have q1 : (Lib.itoa x == t.toList) = true := by rw [ByteArray.toList_eq, hit]; simp
            by_cases hl : x < least
            ·
              refine wp_region_lat (by kernel_rfl) (by kernel_rfl) ?_
              repeat (go_big_quiet_step ((go_at_call 39; exact lat_of (CI _).out)))
              refine wpQuiet_nil ?_
              intro _ hw'
              obtain ⟨xl, hw''⟩ := hw'
              subst hw''
              go_wp2_with fail
              go_meet
              case rel => exact ⟨_, rfl, ⟨fun h => (by cases h), fun h1 h2 h3 h4 h5 h6 => (by omega)⟩, xl.below⟩
            · by_cases hm : most < x
              ·
                refine wp_region_lat (by kernel_rfl) (by kernel_rfl) ?_
                repeat (go_big_quiet_step ((go_at_call 39; exact lat_of (CI _).out)))
                refine wpQuiet_nil ?_
                intro _ hw'
                obtain ⟨xl, hw''⟩ := hw'
                subst hw''
                go_wp2_with fail
                go_meet
                case rel => exact ⟨_, rfl, ⟨fun h => (by cases h), fun h1 h2 h3 h4 h5 h6 => (by omega)⟩, xl.below⟩
              ·
                refine wp_region_lat (by kernel_rfl) (by kernel_rfl) ?_
                repeat (go_big_quiet_step ((go_at_call 39; exact lat_of (CI _).out)))
                refine wpQuiet_nil ?_
                intro _ hw'
                obtain ⟨xl, hw''⟩ := hw'
                subst hw''
                go_wp2_with fail
                go_meet
                case rel => exact ⟨_, rfl, ⟨fun _ => ⟨rfl, by omega, by omega⟩, fun h1 h2 h3 h4 h5 h6 => rfl⟩, xl.below⟩
          · have q1 : (Lib.itoa x == t.toList) = false := by
              rw [ByteArray.toList_eq, beq_eq_false_iff_ne]
              exact fun e => hit e.symm
            refine wp_region_lat (by kernel_rfl) (by kernel_rfl) ?_
            repeat (go_big_quiet_step ((go_at_call 39; exact lat_of (CI _).out)))
            refine wpQuiet_nil ?_
            intro _ hw'
            obtain ⟨xl, hw''⟩ := hw'
            subst hw''
            go_wp2_with fail
            go_meet
            case rel => exact ⟨_, rfl, ⟨fun h => (by cases h), fun h1 h2 h3 h4 h5 h6 => (by exact absurd h4 hit)⟩, xl.below⟩
        · have q0 : (0 : Int) < (nl : Int) := by omega
          have q00 : 0 < nl := by omega
          refine wp_region_lat (by kernel_rfl) (by kernel_rfl) ?_
          repeat (go_big_quiet_step ((go_at_call 39; exact lat_of (CI _).out)))
          refine wpQuiet_nil ?_
          intro _ hw'
          obtain ⟨xl, hw''⟩ := hw'
          subst hw''
          go_wp2_with fail
          go_meet
          case rel => exact ⟨_, rfl, ⟨fun h => (by cases h), fun h1 h2 h3 h4 h5 h6 => (by exact absurd h3 hn0)⟩, xl.below⟩
    ·
      refine wp_region_lat (by kernel_rfl) (by kernel_rfl) ?_
      repeat (go_big_quiet_step ((go_at_call 39; exact lat_of (CI _).out)))
      refine wpQuiet_nil ?_
      intro _ hw'
      obtain ⟨xl, hw''⟩ := hw'
      subst hw''
      go_wp2_with fail
      go_meet
      case rel => exact ⟨_, rfl, ⟨fun h => (by cases h), fun h1 h2 h3 h4 h5 h6 => (by cases h1)⟩, xl.below⟩
  case rest =>
    obtain ⟨bad, rfl, hbad, hbw⟩ := hcut
    have hbH := Lib.hid (hb0.out.trans ((hb1H.out.mono hb0.out.size).trans (hbw.mono (Nat.le_trans hb0.out.size hb1H.out.size))))
    replace hbad := Lib.hid hbad
    have hle := Lib.hid hlo
    have hme := Lib.hid hmo
    clear hbw hlo hmo
    cases bad with
    | true =>
      go_wp2_with fail
      go_ret2
      refine ⟨0, _, rfl, .inr rfl, fun h => (by cases h), fun n n0 n1 h1 h2 h3 => ?_, hbH.out⟩
      obtain ⟨e1, e2⟩ := hspH.out n (by have := hle.out; omega) (by have := hme.out; omega) h3
      subst e2
      have := hbad.out.2 e1 h1 h2 h3 n0 n1
      cases this
    | false =>
      go_wp2_with fail
      go_ret2
      obtain ⟨e1, e2⟩ := hbad.out.1 rfl
      refine ⟨x, _, rfl, .inl rfl, fun _ => e2, fun n n0 n1 h1 h2 h3 => ⟨rfl, (hspH.out n (by have := hle.out; omega) (by have := hme.out; omega) h3).2⟩, hbH.out⟩
end Go.Proofs.YtbefkoljcacpcaaGreatDoor.Tm
set_option linter.unusedVariables false
set_option linter.unusedSimpArgs false
namespace Go.Proofs.YtbefkoljcacpcaaGreatDoor.Tm
open Go Go.RowKit Go.Proofs.YtbefkoljcacpcaaGreatDoor.B Go.Proofs.YtbefkoljcacpcaaGreatDoorW.PrintWords
theorem digs_f (n : Nat) : ∀ k, n ≤ 9223372036854775807 → n + 1 ≤ k → PNumber.tambourref04_Digits.f k (n : Int) = some ⟨(Lib.decDigits n).toArray⟩ := by
  induction n using Nat.strongRecOn with
  | _ n ih =>
    intro k hn hk
    obtain ⟨k, rfl⟩ : ∃ m, k = m + 1 := ⟨k - 1, by omega⟩
    unfold PNumber.tambourref04_Digits.f
    rw [if_neg (by omega), Option.bind_some]
    have e1 : wrap64 (48 + Int.tmod (n : Int) 10) % 256 = ((UInt8.ofNat (48 + n % 10)).toNat : Int) := by
      rw [UInt8.toNat_ofNat', show Int.tmod (n : Int) 10 = ((n % 10 : Nat) : Int) from by rw [Int.tmod_eq_emod_of_nonneg (by omega)]; omega]
      unfold wrap64
      omega
    rw [e1]
    have e2 : strOfNums [((UInt8.ofNat (48 + n % 10)).toNat : Int)] = ⟨#[UInt8.ofNat (48 + n % 10)]⟩ := Dig.strOfNums_nums [UInt8.ofNat (48 + n % 10)]
    rw [e2, Lib.decDigits]
    by_cases h10 : n < 10
    · rw [if_pos (by omega), dif_pos h10, Nat.mod_eq_of_lt h10]
    · rw [if_neg (by omega), dif_neg h10]
      have e3 : wrap64 (Int.tdiv (n : Int) 10) = ((n / 10 : Nat) : Int) := by
        rw [Int.tdiv_eq_ediv_of_nonneg (by omega)]
        unfold wrap64
        omega
      rw [e3, ih (n / 10) (by omega) k (by omega) (by omega), Option.bind_some]
      have hl := Lib.itoa_length_le ((n / 10 : Nat) : Int) (by omega) (by omega)
      rw [Lib.itoa_nonneg] at hl
      have hs : (ByteArray.mk (Lib.decDigits (n / 10)).toArray).size = (Lib.decDigits (n / 10)).length := by show (Lib.decDigits (n / 10)).toArray.size = _; simp
      have h1 : (ByteArray.mk #[UInt8.ofNat (48 + n % 10)]).size = 1 := rfl
      rw [if_pos (by omega)]
      congr 1
theorem digs_int (n : Int) (h0 : -9223372036854775808 ≤ n) (h1 : n ≤ 9223372036854775807) : ∃ k, PNumber.tambourref04_Digits.f k n = some ⟨(Lib.itoa n).toArray⟩ := by
  by_cases hn : 0 ≤ n
  · obtain ⟨m, rfl⟩ : ∃ m : Nat, n = (m : Int) := ⟨n.toNat, by omega⟩
    exact ⟨m + 1, by rw [digs_f m (m + 1) (by omega) (Nat.le_refl _), Lib.itoa_nonneg]⟩
  · obtain ⟨m, rfl, hm⟩ : ∃ m : Nat, n = -(m : Int) ∧ 1 ≤ m := ⟨(-n).toNat, by omega, by omega⟩
    rw [Lib.itoa_neg m hm]
    refine ⟨m + 2, ?_⟩
    unfold PNumber.tambourref04_Digits.f
    rw [if_pos (by omega)]
    by_cases hb : m = 9223372036854775808
    · rw [if_pos (by omega), hb]
      have e : Lib.decDigits 9223372036854775808 = [57, 50, 50, 51, 51, 55, 50, 48, 51, 54, 56, 53, 52, 55, 55, 53, 56, 48, 56] := by
        simp [Lib.decDigits]
      rw [e]
    · rw [if_neg (by omega)]
      have e3 : wrap64 (-(-(m : Int))) = (m : Int) := by unfold wrap64; omega
      rw [e3, digs_f m (m + 1) (by omega) (Nat.le_refl _), Option.bind_some]
      have hl := Lib.itoa_length_le (m : Int) (by omega) (by omega)
      rw [Lib.itoa_nonneg] at hl
      have hs : (ByteArray.mk (Lib.decDigits m).toArray).size = (Lib.decDigits m).length := by show (Lib.decDigits m).toArray.size = _; simp
      rw [if_pos (by omega)]
      congr 1
theorem digits_c (n : Int) (h0 : -9223372036854775808 ≤ n) (h1 : n ≤ 9223372036854775807) (w : World) :
    Calls Tryz.prog 59 #[.int .i64 n] w fun e w' => e = .returned (.string ⟨(Lib.itoa n).toArray⟩) ∧ Below w.heap.size w w' := by
  obtain ⟨k, hk⟩ := digs_int n h0 h1
  exact PNumber.tambourref04_Digits.calls k n _ w hk
end Go.Proofs.YtbefkoljcacpcaaGreatDoor.Tm
set_option linter.unusedVariables false
set_option linter.unusedSimpArgs false
namespace Go.Proofs.YtbefkoljcacpcaaGreatDoor.Tm
open Go Go.RowKit Go.Proofs.YtbefkoljcacpcaaGreatDoor.B Go.Proofs.YtbefkoljcacpcaaGreatDoor.Bld Go.Proofs.YtbefkoljcacpcaaGreatDoor.Sha
theorem infoF : ∃ i, Tryz.prog.info? 52 = some i ∧ i.zero = some (.agg #[.bool false, .string ⟨#[]⟩, .slice none 0 0]) ∧ i.size = 3 ∧ i.bytes = 48 := by
  have h : (Tryz.prog.info? 52).map (fun i => (i.zero, i.size, i.bytes)) = some (some (.agg #[.bool false, .string ⟨#[]⟩, .slice none 0 0]), 3, 48) := by kernel_rfl
  match hi : Tryz.prog.info? 52, h with
  | some i, h =>
    simp only [Option.map_some, Option.some.injEq, Prod.mk.injEq] at h
    exact ⟨i, rfl, h.1, h.2.1, h.2.2⟩
def ItemAt (g deep : Nat) : Prop := ∀ (s : ByteArray) (w : World), RdAt w g s → s.size ≤ 65536 → Calls Tryz.prog 70 #[.pointer (some ⟨g, 0, none⟩), .int .i64 deep] w (ItemPost g deep s w)
def ItRel (g deep : Nat) (s1 : List UInt8) (w : World) (W : World) (L : List F) (v : Value) (r : ByteArray) : Prop :=
  RdAt W g r ∧ W.heap[w.heap.size]? = some (.cells #[.bool false, .string ⟨#[]⟩, .slice none 0 0] 52 (0, 0)) ∧
  W.heap[w.heap.size + 1]? = some (.cells #[.bool true, .string ⟨#[]⟩, v] 52 (0, 0)) ∧ Bag (w.heap.size + 2) W v L ∧ LoopSpec deep s1 L r.data.toList ∧ Tch (fun k => k = g) w W
theorem size_alloc (w : World) (o : Obj) : (w.alloc o).heap.size = w.heap.size + 1 := by simp
theorem blk3 {X : World} {b : Nat} {x y z : Value} {t : TypeId} (h : X.heap[b]? = some (.cells #[x, y, z] t (0, 0))) :
    X.cell? ⟨b, 0, none⟩ = some x ∧ X.cell? ⟨b, 1, none⟩ = some y ∧ X.cell? ⟨b, 2, none⟩ = some z ∧ X.shape? b = some (t, 3) ∧ ∀ i, X.frozen? ⟨b, i, none⟩ = false :=
  ⟨by rw [cell_of h]; rfl, by rw [cell_of h]; rfl, by rw [cell_of h]; rfl, by simp [World.shape?, h], fr_of h⟩
theorem itemPost_no {g deep : Nat} {s r : ByteArray} {w W : World} (hg : g < w.heap.size) (hr : RdAt W g r) (hsp : ItemSpec deep s.data.toList (.mk false [] []) false r.data.toList) (ht : Tch (fun k => k = g) w W) (x y z : Value) :
    ItemPost g deep s w (.returned (.tuple #[.agg #[.bool false, .string ⟨#[]⟩, .slice none 0 0], .bool false])) (((W.setCell ⟨w.heap.size, 0, none⟩ x).setCell ⟨w.heap.size, 1, none⟩ y).setCell ⟨w.heap.size, 2, none⟩ z) := by
  refine ⟨.mk false [] [], _, _, _, false, r, rfl, FK.text _ _ ⟨#[]⟩, ?_, hsp, tch_set3 ht (Nat.le_refl _) _ _ _⟩
  unfold RdAt
  rw [set3_ne (by omega)]
  exact hr
set_option maxRecDepth 100000 in
set_option maxHeartbeats 8000000 in
theorem item_list_c (g deep : Nat) (hd9 : deep ≤ 8) (ih : deep < 8 → ItemAt g (deep + 1)) (s : ByteArray) (w : World) (hg : RdAt w g s) (hs : s.size ≤ 65536) (h0 : s.data.toList[0]? = some 40) :
    Calls Tryz.prog 70 #[.pointer (some ⟨g, 0, none⟩), .int .i64 deep] w (ItemPost g deep s w) := by
  have hs1 : 1 ≤ s.size := by
    rw [← toList_size]
    have := (List.getElem?_eq_some_iff.1 h0).1
    omega
  obtain ⟨s1, hs1e⟩ : ∃ s1, s.data.toList = 40 :: s1 := by
    generalize s.data.toList = l at *
    cases l with
    | nil => cases h0
    | cons a l =>
      simp only [List.getElem?_cons_zero, Option.some.injEq] at h0
      exact ⟨l, by rw [h0]⟩
  have hs1i : (1 : Int) ≤ (s.size : Int) := by omega
  have hgl := heap_lt hg
  obtain ⟨w0, hw0⟩ : ∃ w0, w0 = w.alloc (.cells #[.bool false, .string ⟨#[]⟩, .slice none 0 0] 52) := ⟨_, rfl⟩
  have hsz0 : w0.heap.size = w.heap.size + 1 := by rw [hw0]; simp
  have hg0 : RdAt w0 g s := by rw [hw0]; unfold RdAt; rw [heap_alloc_lt _ _ _ hgl]; exact hg
  have hr0 : w0.heap[w.heap.size]? = some (.cells #[.bool false, .string ⟨#[]⟩, .slice none 0 0] 52 (0, 0)) := by rw [hw0]; exact heap_alloc_at _ _
  have ht0 : Tch (fun k => k = g) w w0 := by rw [hw0]; exact (Tch.refl _ _).alloc _
  obtain ⟨w1, hw1⟩ : ∃ w1, w1 = w0.alloc (.cells #[.bool true, .string ⟨#[]⟩, .slice none 0 0] 52) := ⟨_, rfl⟩
  have hsz1 : w1.heap.size = w.heap.size + 2 := by rw [hw1]; simp [hsz0]
  have hg1 : RdAt w1 g s := by rw [hw1]; unfold RdAt; rw [heap_alloc_lt _ _ _ (heap_lt hg0)]; exact hg0
  have hr1 : w1.heap[w.heap.size]? = some (.cells #[.bool false, .string ⟨#[]⟩, .slice none 0 0] 52 (0, 0)) := by rw [hw1, heap_alloc_lt _ _ _ (heap_lt hr0)]; exact hr0
  have hf1 : w1.heap[w.heap.size + 1]? = some (.cells #[.bool true, .string ⟨#[]⟩, .slice none 0 0] 52 (0, 0)) := by rw [hw1, ← hsz0]; exact heap_alloc_at _ _
  have ht1 : Tch (fun k => k = g) w w1 := by rw [hw1]; exact ht0.alloc _
  have hc0 : w0.cell? ⟨g, 0, none⟩ = some (.string s) := by rw [cell_of hg0]; rfl
  have hc1 : w1.cell? ⟨g, 0, none⟩ = some (.string s) := by rw [cell_of hg1]; rfl
  have hz1 : w1.frozen? ⟨g, 0, none⟩ = false := fr_of hg1 0
  have CP := Tryz.strings_HasPrefix s ⟨#[40]⟩ w0
  have hpre : Lib.hasPrefix s.data.toList (⟨#[40]⟩ : ByteArray).data.toList = true := by
    show [40].isPrefixOf s.data.toList = true
    rw [hs1e]
    simp [List.isPrefixOf]
  rw [hpre] at CP
  have CPH := Lib.hid CP
  have hrel0 : ItRel g deep s1 w (w1.setCell ⟨g, 0, none⟩ (.string (s.extract 1 s.size))) [] (.slice none 0 0) (s.extract 1 s.size) := by
    have hne1 : w.heap.size ≠ g := by omega
    have hne2 : w.heap.size + 1 ≠ g := by omega
    refine ⟨rdAt_set hg1 _, by rw [heap_set_ne _ _ _ _ hne1]; exact hr1, by rw [heap_set_ne _ _ _ _ hne2]; exact hf1, Bag.nil _ _, ?_, ht1.setCell ⟨g, 0, none⟩ (fun _ => rfl) _⟩
    rw [extract_toList, hs1e]
    exact loop_zero deep s1
  have hrel0H := Lib.hid hrel0
  have hsx : (s.extract 1 s.size).size = s.size - 1 := by rw [← toList_size, extract_toList, List.length_drop, toList_size]
  have hsxH := Lib.hid hsx
  replace hgl := Lib.hid hgl
  replace hs1e := Lib.hid hs1e
  replace hs := Lib.hid hs
  have ihH := Lib.hid ih
  have hsz0H := Lib.hid hsz0
  clear hrel0 hsx CP hpre hg hg0 hg1 hr0 hr1 hf1 ht0 ht1 hsz1 h0 ih hsz0
  go_enter Tryz.func70, Tryz.ntmps70
  go_upto_region 1 with fail
  rw [← hw0]
  replace hw0 := Lib.hid hw0
  go_wp2_with fail
  refine (CPH.out).mono ?_
  rintro ev w2 ⟨rfl, rfl⟩
  go_upto_region 3 with fail
  rw [hsz0H.out, ← hw1]
  replace hw1 := Lib.hid hw1
  go_wp2_with fail
  go_loopg [] (s.size - 1) (fun g' W => ∃ L v r, g' = r.size ∧ ItRel g deep s1 w W L v r)
  case atStart => exact ⟨[], .slice none 0 0, s.extract 1 s.size, by rw [hsxH.out], hrel0H.out⟩
  case round =>
    obtain ⟨L, v, r, hgk, hR⟩ := hrel
    have hrg := hR.1
    have hblk := hR.2.1
    have hfb := hR.2.2.1
    have hlp := hR.2.2.2.2.1
    have hT := hR.2.2.2.2.2
    obtain ⟨k0, k1, k2, hsh, hfz⟩ := blk3 hblk
    obtain ⟨f0, f1, f2, _, hfzf⟩ := blk3 hfb
    have cg : wr.cell? ⟨g, 0, none⟩ = some (.string r) := by rw [cell_of hrg]; rfl
    have zg : wr.frozen? ⟨g, 0, none⟩ = false := fr_of hrg 0
    have hRH := Lib.hid hR
    replace hgk := Lib.hid hgk
    replace hrg := Lib.hid hrg
    replace hblk := Lib.hid hblk
    replace hfb := Lib.hid hfb
    replace hlp := Lib.hid hlp
    replace hT := Lib.hid hT
    clear hR
    by_cases hd8 : deep < 8
    · have hd8i : (deep : Int) < 8 := by omega
      by_cases hr0 : r.size = 0
      · have hre : r.toList = [] := by rw [ByteArray.toList_eq]; exact List.eq_nil_of_length_eq_zero (by rw [toList_size]; exact hr0)
        have hsp := Lib.hid (item_stop hlp.out (.inr (List.eq_nil_of_length_eq_zero (by rw [toList_size]; exact hr0))) (.mk false [] []))
        rw [← hs1e.out] at hsp
        go_wp2_with fail
        (try simp only [Exit.inBlock, Exit.then])
        refine bodyPost_ret (results_cell_tmp rfl _ _ w.heap.size 52 #[.bool false, .string ⟨#[]⟩, .slice none 0 0] (0, 0) _ rfl (set3 hblk.out) Tryz.underlying52 rfl (by kernel_rfl) _ rfl) rfl ?_
        exact itemPost_no hgl.out hrg.out hsp.out hT.out _ _ _
      · have hre1 : ¬ r.toList = [] := by
          rw [ByteArray.toList_eq]
          intro e
          exact hr0 (by rw [← toList_size, e]; rfl)
        have hre2 : r.toList.isEmpty = false := by simpa using hre1
        have hrp : 0 < r.size := by omega
        have hrpi : (0 : Int) < (r.size : Int) := by omega
        obtain ⟨a, ha⟩ : ∃ a, a = r[0]'hrp := ⟨_, rfl⟩
        have hl0 : r.data.toList[0]? = some a := by rw [ha, Array.getElem?_toList, Array.getElem?_eq_getElem hrp]; rfl
        by_cases h41 : a = 41
        · have q41 : (((r[0]'hrp).toNat : Int) == 41) = true := by rw [← ha, h41]; rfl
          obtain ⟨A, c, rfl, hLc, hcm, hks⟩ := hRH.out.2.2.2.1.form
          have hr41 : r.data.toList = 41 :: r.data.toList.drop 1 := by
            rw [h41] at hl0
            generalize r.data.toList = q at *
            cases q with
            | nil => cases hl0
            | cons x q =>
              simp only [List.getElem?_cons_zero, Option.some.injEq] at hl0
              rw [hl0]; rfl
          have hl1 := hlp.out
          rw [hr41] at hl1
          have hLb : L.length ≤ 65536 := by
            have h1 := hl1.1.1
            have h2 := hs.out
            rw [← toList_size, hs1e.out] at h2
            simp only [List.length_cons] at h1 h2
            omega
          have hsp := Lib.hid (item_end hl1 hLb)
          rw [← hs1e.out, ← extract_toList] at hsp
          have hn5 : ¬ w.heap.size = g := by have := hgl.out; omega
          have hn6 : ¬ g = w.heap.size := by have := hgl.out; omega
          have hn7 : ¬ w.heap.size + 1 = g := by have := hgl.out; omega
          have hn8 : ¬ g = w.heap.size + 1 := by have := hgl.out; omega
          have hr1i : (1 : Int) ≤ (r.size : Int) := by omega
          have hks := Lib.hid hks
          obtain ⟨nL, hnL⟩ : ∃ nL, nL = L.length := ⟨_, rfl⟩
          rw [← hnL] at f2 hLc
          have hLc := Lib.hid hLc
          replace hnL := Lib.hid hnL
          clear hr41 hl0 hl1 ha h41 hRH
          go_wp2_with fail
          (try simp only [Exit.inBlock, Exit.then])
          have hblk2 : (wr.setCell ⟨g, 0, none⟩ (.string (r.extract 1 r.size))).heap[w.heap.size]? = some (.cells #[.bool false, .string ⟨#[]⟩, .slice none 0 0] 52 (0, 0)) := by
            rw [heap_set_ne _ _ _ _ hn5]; exact hblk.out
          refine bodyPost_ret (results_cell_tmp rfl _ _ w.heap.size 52 #[.bool true, .string ⟨#[]⟩, .slice A nL c] (0, 0) _ rfl (set3 hblk2) Tryz.underlying52 rfl (by kernel_rfl) _ rfl) rfl ?_
          refine ⟨.mk true [] L, _, _, _, true, r.extract 1 r.size, rfl, ?_, ?_, hsp.out, tch_set3 (hT.out.setCell ⟨g, 0, none⟩ (fun _ => rfl) _) (Nat.le_refl _) _ _ _⟩
          · unfold FK
            rw [hnL.out]
            refine ⟨A, c, rfl, by rw [← hnL.out]; exact hLc.out, by omega, FKs.move (fun b hb => ⟨⟨by omega, by rw [size_set, size_set, size_set, size_set]; exact hb.2⟩, by rw [set3_ne (by omega), heap_set_ne _ _ _ _ (by show b ≠ g; have := hgl.out; omega)]⟩) L A 0 hks.out⟩
          · unfold RdAt
            rw [set3_ne hn6]
            exact rdAt_set hrg.out _
        · have q41 : (((r[0]'hrp).toNat : Int) == 41) = false := by
            rw [← ha, beq_eq_false_iff_ne]
            intro h
            exact h41 (UInt8.toNat_inj.1 (by have : ((41 : UInt8).toNat : Int) = 41 := rfl; omega))
          have hn41 : r.data.toList[0]? ≠ some 41 := by rw [hl0]; simpa using h41
          have hrb : r.size + L.length ≤ 65536 := by
            have h1 := hlp.out.1.1
            have h2 := hs.out
            rw [toList_size] at h1
            rw [← toList_size, hs1e.out] at h2
            simp only [List.length_cons] at h2
            omega
          have CI := ihH.out hd8 r wr hrg.out (by omega)
          rw [show ((deep + 1 : Nat) : Int) = (deep : Int) + 1 from by omega] at CI
          have CIH := Lib.hid CI
          have hn41H := Lib.hid hn41
          have hrbH := Lib.hid hrb
          clear CI hn41 hl0 ha h41 hrb
          go_wp2_with fail
          refine (CIH.out).mono ?_
          rintro ev w3 ⟨f, x0, x1, x2, ok, r3, rfl, hFK, hg3, hsp3, hT3⟩
          have hb3 := hT3.heap hblk.out (show ¬ w.heap.size = g by have := hgl.out; omega)
          have hf3 := hT3.heap hfb.out (show ¬ w.heap.size + 1 = g by have := hgl.out; omega)
          have hB3 := hRH.out.2.2.2.1.keep (w' := w3) (fun b h1 h2 => hT3.block b h2 (show ¬ b = g by have := hgl.out; omega)) hT3.size
          have hTT := hT.out.trans hT3
          obtain ⟨fb, ft, fl⟩ := f
          have hFK2 := hFK
          unfold FK at hFK2
          obtain ⟨A2, c2, hcs, _⟩ := hFK2
          simp only [List.cons.injEq, and_true] at hcs
          obtain ⟨rfl, rfl, rfl⟩ := hcs
          obtain ⟨w4, hw4⟩ : ∃ w4, w4 = w3.alloc (.cells #[.bool fb, .string ⟨ft.toArray⟩, .slice A2 fl.length c2] 52) := ⟨_, rfl⟩
          have hx4 : w4.heap[w3.heap.size]? = some (.cells #[.bool fb, .string ⟨ft.toArray⟩, .slice A2 fl.length c2] 52 (0, 0)) := by rw [hw4]; exact heap_alloc_at _ _
          have hb4 : w4.heap[w.heap.size]? = some (.cells #[.bool false, .string ⟨#[]⟩, .slice none 0 0] 52 (0, 0)) := by rw [hw4, heap_alloc_lt _ _ _ (heap_lt hb3)]; exact hb3
          have hf4 : w4.heap[w.heap.size + 1]? = some (.cells #[.bool true, .string ⟨#[]⟩, v] 52 (0, 0)) := by rw [hw4, heap_alloc_lt _ _ _ (heap_lt hf3)]; exact hf3
          have hg4 : RdAt w4 g r3 := by unfold RdAt; rw [hw4, heap_alloc_lt _ _ _ (heap_lt hg3)]; exact hg3
          have hT4 : Tch (fun k => k = g) w w4 := by rw [hw4]; exact hTT.alloc _
          have hs4 : w4.heap.size = w3.heap.size + 1 := by rw [hw4]; simp
          have hB4 := hB3.keep (w' := w4) (fun b h1 h2 => by rw [hw4]; exact heap_alloc_lt _ _ _ h2) (by omega)
          have hF4 : FK (fun b => wr.heap.size ≤ b ∧ b < w3.heap.size) w4 (.mk fb ft fl) [.bool fb, .string ⟨ft.toArray⟩, .slice A2 fl.length c2] := FK.move (fun b hb => ⟨hb, by rw [hw4]; exact heap_alloc_lt _ _ _ hb.2⟩) _ _ hFK
          obtain ⟨y0, y1, y2, _, yz⟩ := blk3 hx4
          obtain ⟨k0, k1, k2, hsh, hfz⟩ := blk3 hb4
          obtain ⟨f0, f1, f2, _, hfzf⟩ := blk3 hf4
          obtain ⟨nl, hnl⟩ : ∃ nl, nl = fl.length := ⟨_, rfl⟩
          rw [← hnl] at hw4 hF4 y2 hx4 ⊢
          replace hnl := Lib.hid hnl
          have hw3 := Lib.hid (show wr.heap.size ≤ w3.heap.size from hT3.size)
          have hlo := Lib.hid (show w.heap.size + 1 < wr.heap.size from heap_lt hfb.out)
          replace hx4 := Lib.hid hx4
          replace hb4 := Lib.hid hb4
          replace hf4 := Lib.hid hf4
          replace hg4 := Lib.hid hg4
          replace hT4 := Lib.hid hT4
          replace hs4 := Lib.hid hs4
          replace hB4 := Lib.hid hB4
          replace hF4 := Lib.hid hF4
          replace hsp3 := Lib.hid hsp3
          clear hb3 hf3 hB3 hTT hFK hg3 hT3
          cases ok with
          | false =>
            have hsp := Lib.hid (item_fail hlp.out hn41H.out hsp3.out (.mk false [] []))
            rw [← hs1e.out] at hsp
            go_upto_region 9 with fail
            rw [← hw4]
            replace hw4 := Lib.hid hw4
            go_wp2_with fail
            (try simp only [Exit.inBlock, Exit.then])
            refine bodyPost_ret (results_cell_tmp rfl _ _ w.heap.size 52 #[.bool false, .string ⟨#[]⟩, .slice none 0 0] (0, 0) _ rfl (set3 hb4.out) Tryz.underlying52 rfl (by kernel_rfl) _ rfl) rfl ?_
            exact itemPost_no hgl.out hg4.out hsp.out hT4.out _ _ _
          | true =>
            have hlp2 := Lib.hid (loop_step hlp.out hn41H.out hsp3.out)
            have hr3 := Lib.hid (hsp3.out.2.1 rfl)
            obtain ⟨iF, hiF, hzF, hsF, hbF⟩ := infoF
            obtain ⟨cs, hown, hFC⟩ := hB4.out
            have hownH := Lib.hid hown
            have hFCH := Lib.hid hFC
            have hlb := Lib.hid (show L.length ≤ 65536 by have := hrbH.out; omega)
            obtain ⟨nL, hnL⟩ : ∃ nL, nL = L.length := ⟨_, rfl⟩
            rw [← hnL] at hownH hlb
            replace hnL := Lib.hid hnL
            have hnb := Lib.hid (show some (w.heap.size + 1) ≠ v.ownBlock from fun e => by have := (hB4.out.lt _ e.symm).1; omega)
            clear hown hFC
            go_upto_region 9 with fail
            rw [← hw4]
            replace hw4 := Lib.hid hw4
            go_upto_region 10 with fail
            go_wp2_with (at_builtin; refine wpList_append_lies _ (by rfl) _ _ _ (by rfl) (w.heap.size + 2) 52 iF _ 3 48 Tryz.underlying50 hiF hzF hsF hbF rfl (by omega) v nL cs (by rfl) (hownH.out.alloc _) ⟨w4.heap.size, 0, none⟩ 1 1 [.bool fb, .string ⟨ft.toArray⟩, .slice A2 nl c2] (by rfl) (by rfl) (World.news_of_block (heap_alloc_at w4 _)) (by simp [Value.oneCell']) (by omega) (by have := hlb.out; unfold maxLen; omega) (by have := hlb.out; omega) (by have := hlo.out; have := hw3.out; have := hs4.out; simp; omega) (w4.heap.size + 1) (by simp) ?_; intro g5 cap5 w5 hown5 hgrow5 hat5 hlt5; have hf5 := (hgrow5.block (w.heap.size + 1) (by have := heap_lt hf4.out; simp; omega) hnb.out).trans ((heap_alloc_lt w4 _ _ (heap_lt hf4.out)).trans hf4.out); have f5 : w5.cell? ⟨w.heap.size + 1, 2, none⟩ = some v := (by rw [cell_of hf5]; rfl); have z5 : w5.frozen? ⟨w.heap.size + 1, 2, none⟩ = false := fr_of hf5 2; replace hf5 := Lib.hid hf5; replace hgrow5 := Lib.hid hgrow5; replace hown5 := Lib.hid hown5; replace hat5 := Lib.hid hat5)
            go_roundg r3.size
            case measure => have := hr3.out; rw [toList_size, toList_size] at this; rw [hgk.out]; exact this
            case rel =>
              refine ⟨L ++ [.mk fb ft fl], .slice (some ⟨g5, 0, none⟩) (nL + 1) cap5, r3, rfl, ?_⟩
              have hge : g ≠ w.heap.size + 1 := by have := hgl.out; omega
              have hsz5 := hgrow5.out.size
              simp only [size_alloc] at hsz5
              have blk5 : ∀ b, b < w4.heap.size → some b ≠ v.ownBlock → w5.heap[b]? = w4.heap[b]? := fun b h1 h2 => (hgrow5.out.block b (by simp only [size_alloc]; omega) h2).trans (heap_alloc_lt w4 _ _ h1)
              have hvb : ∀ b, b < w.heap.size + 2 → some b ≠ v.ownBlock := fun b hb e => by have := (hB4.out.lt _ e.symm).1; omega
              have hsz4 := heap_lt hf4.out
              have hgr : w4.grownBy w5 v.ownBlock := ⟨hgrow5.out.os, hgrow5.out.tape, hgrow5.out.output, by omega, fun k h1 h2 => blk5 k h1 h2⟩
              have hT5 : Tch (fun k => k = g) w w5 := ⟨hgr.os.trans hT4.out.os, hgr.tape.trans hT4.out.tape, hgr.output.trans hT4.out.output, Nat.le_trans hT4.out.size hgr.size, fun k h1 h2 => (blk5 k (Nat.lt_of_lt_of_le h1 hT4.out.size) (hvb k (by omega))).trans (hT4.out.block k h1 h2)⟩
              have hbag : Bag (w.heap.size + 2) w5 (.slice (some ⟨g5, 0, none⟩) (nL + 1) cap5) (L ++ [.mk fb ft fl]) := by
                rw [hnL.out] at hown5 ⊢
                refine Bag.push hFCH.out (FK.move (fun b hb => ⟨⟨by have := hlo.out; omega, by have := hs4.out; omega, fun e => by have := (hRH.out.2.2.2.1.lt _ e.symm).2; omega⟩, rfl⟩) _ _ hF4.out) hown5.out hgr ?_
                rcases hat5.out with h | h
                · exact .inl h
                · right; omega
              refine ⟨?_, ?_, ?_, ?_, hlp2.out, hT5.setNew ⟨w.heap.size + 1, 2, none⟩ (by show w.heap.size ≤ w.heap.size + 1; omega) _⟩
              · unfold RdAt
                rw [heap_set_ne _ _ _ _ hge, blk5 g (heap_lt hg4.out) (hvb g (by have := hgl.out; omega))]
                exact hg4.out
              · rw [heap_set_ne _ _ _ _ (by show w.heap.size ≠ w.heap.size + 1; omega), blk5 _ (by omega) (hvb _ (by omega))]
                exact hb4.out
              · exact heap_set _ _ _ _ _ _ _ hf5.out
              · exact hbag.keep (fun b h1 h2 => heap_set_ne _ _ _ _ (by show b ≠ w.heap.size + 1; omega)) (by rw [size_set]; exact Nat.le_refl _)
    · have hd8i : ¬ (deep : Int) < 8 := by omega
      have hsp := Lib.hid (item_stop hlp.out (.inl (by omega)) (.mk false [] []))
      rw [← hs1e.out] at hsp
      go_wp2_with fail
      (try simp only [Exit.inBlock, Exit.then])
      refine bodyPost_ret (results_cell_tmp rfl _ _ w.heap.size 52 #[.bool false, .string ⟨#[]⟩, .slice none 0 0] (0, 0) _ rfl (set3 hblk.out) Tryz.underlying52 rfl (by kernel_rfl) _ rfl) rfl ?_
      exact itemPost_no hgl.out hrg.out hsp.out hT.out _ _ _
theorem item_c (g : Nat) (d : Nat) : ∀ deep : Nat, deep + d = 8 → ItemAt g deep := by
  induction d with
  | zero =>
    intro deep hd s w hg hs
    by_cases h0 : s.data.toList[0]? = some 40
    · exact item_list_c g deep (by omega) (fun h8 => absurd h8 (by omega)) s w hg hs h0
    · exact item_text_c g deep s w hg hs h0
  | succ d ih =>
    intro deep hd s w hg hs
    by_cases h0 : s.data.toList[0]? = some 40
    · exact item_list_c g deep (by omega) (fun h8 => ih (deep + 1) (by omega)) s w hg hs h0
    · exact item_text_c g deep s w hg hs h0
end Go.Proofs.YtbefkoljcacpcaaGreatDoor.Tm
set_option linter.unusedVariables false
set_option linter.unusedSimpArgs false
namespace Go.Proofs.YtbefkoljcacpcaaGreatDoor.Tm
open Go Go.RowKit Go.Proofs.YtbefkoljcacpcaaGreatDoor.B Go.Proofs.YtbefkoljcacpcaaGreatDoor.Bld
def ReadPost (s : ByteArray) (w : World) (ev : Ending) (w' : World) : Prop :=
  ∃ f c0 c1 c2 er, ev = .returned (.tuple #[.agg #[c0, c1, c2], er]) ∧ FK (fun b => w.heap.size ≤ b ∧ b < w'.heap.size) w' f [c0, c1, c2] ∧ (f.small = true ∧ (er = .nilIface ∨ er = errno 5)) ∧
    (∀ f', f'.right = true → f'.depth ≤ 8 → s.data.toList = f'.bytes → er = .nilIface ∧ f = f') ∧ Below w.heap.size w w'
theorem blk1 {X : World} {b : Nat} {x : Value} {t : TypeId} (h : X.heap[b]? = some (.cells #[x] t (0, 0))) : X.cell? ⟨b, 0, none⟩ = some x := by rw [cell_of h]; rfl
set_option maxRecDepth 100000 in
set_option maxHeartbeats 4000000 in
theorem read_c (s : ByteArray) (w : World) (hs : s.size ≤ 65536) : Calls Tryz.prog 45 #[.string s] w (ReadPost s w) := by
  have hsi : ¬ (65536 : Int) < (s.size : Int) := by omega
  obtain ⟨w0, hw0⟩ : ∃ w0, w0 = w.alloc (.cells #[.bool false, .string ⟨#[]⟩, .slice none 0 0] 52) := ⟨_, rfl⟩
  have hs0 : w0.heap.size = w.heap.size + 1 := by rw [hw0]; simp
  have hr0 : w0.heap[w.heap.size]? = some (.cells #[.bool false, .string ⟨#[]⟩, .slice none 0 0] 52 (0, 0)) := by rw [hw0]; exact heap_alloc_at _ _
  have hb0 : Below w.heap.size w w0 := by rw [hw0]; exact (Below.refl _ _).alloc (Nat.le_refl _) _
  obtain ⟨w1, hw1⟩ : ∃ w1, w1 = w0.alloc (.cells #[.string s] 145) := ⟨_, rfl⟩
  have hs1 : w1.heap.size = w.heap.size + 2 := by rw [hw1]; simp [hs0]
  have hg1 : RdAt w1 (w.heap.size + 1) s := by unfold RdAt; rw [hw1, ← hs0]; exact heap_alloc_at _ _
  have hr1 : w1.heap[w.heap.size]? = some (.cells #[.bool false, .string ⟨#[]⟩, .slice none 0 0] 52 (0, 0)) := by rw [hw1, heap_alloc_lt _ _ _ (heap_lt hr0)]; exact hr0
  have hb1 : Below w.heap.size w w1 := by rw [hw1]; exact hb0.alloc (by omega) _
  have CI := Lib.hid (show Calls Tryz.prog 70 #[.pointer (some ⟨w.heap.size + 1, 0, none⟩), .int .i64 0] w1 (ItemPost (w.heap.size + 1) 0 s w1) from item_c _ 8 0 rfl s w1 hg1 hs)
  have hs0H := Lib.hid hs0
  replace hs1 := Lib.hid hs1
  replace hr1 := Lib.hid hr1
  replace hb1 := Lib.hid hb1
  clear hs0 hr0 hb0 hg1
  go_enter Tryz.func45, Tryz.ntmps45
  go_upto_region 1 with fail
  rw [← hw0]
  replace hw0 := Lib.hid hw0
  go_upto_region 4 with fail
  rw [hs0H.out, ← hw1]
  replace hw1 := Lib.hid hw1
  go_wp2_with fail
  refine (CI.out).mono ?_
  rintro ev w3 ⟨f, x0, x1, x2, ok, r3, rfl, hFK, hg3, hsp3, hT3⟩
  have hb3 := hT3.heap hr1.out (show ¬ w.heap.size = w.heap.size + 1 by omega)
  have hbw := Lib.hid (hb1.out.trans (hT3.below (B := w.heap.size) (by rw [hs1.out]; omega) (fun k hk _ => by subst hk; omega)))
  obtain ⟨fb, ft, fl⟩ := f
  have hFK2 := hFK
  unfold FK at hFK2
  obtain ⟨A2, c2, hcs, _⟩ := hFK2
  simp only [List.cons.injEq, and_true] at hcs
  obtain ⟨rfl, rfl, rfl⟩ := hcs
  obtain ⟨nl, hnl⟩ : ∃ nl, nl = fl.length := ⟨_, rfl⟩
  rw [← hnl] at hFK ⊢
  obtain ⟨w4, hw4⟩ : ∃ w4, w4 = w3.alloc (.cells #[.bool fb, .string ⟨ft.toArray⟩, .slice A2 nl c2] 52) := ⟨_, rfl⟩
  have hx4 : w4.heap[w3.heap.size]? = some (.cells #[.bool fb, .string ⟨ft.toArray⟩, .slice A2 nl c2] 52 (0, 0)) := by rw [hw4]; exact heap_alloc_at _ _
  have hb4 : w4.heap[w.heap.size]? = some (.cells #[.bool false, .string ⟨#[]⟩, .slice none 0 0] 52 (0, 0)) := by rw [hw4, heap_alloc_lt _ _ _ (heap_lt hb3)]; exact hb3
  have hg4 : RdAt w4 (w.heap.size + 1) r3 := by unfold RdAt; rw [hw4, heap_alloc_lt _ _ _ (heap_lt hg3)]; exact hg3
  have hB4 := Lib.hid (show Below w.heap.size w w4 by rw [hw4]; exact hbw.out.alloc (Nat.le_of_lt (heap_lt hb3)) _)
  have hF4 : FK (fun b => w1.heap.size ≤ b ∧ b < w3.heap.size) w4 (.mk fb ft fl) [.bool fb, .string ⟨ft.toArray⟩, .slice A2 nl c2] := FK.move (fun b hb => ⟨hb, by rw [hw4]; exact heap_alloc_lt _ _ _ hb.2⟩) _ _ hFK
  have hF4H := Lib.hid hF4
  have hs4 := Lib.hid (show w3.heap.size < w4.heap.size from heap_lt hx4)
  obtain ⟨y0, y1, y2, _, yz⟩ := blk3 hx4
  obtain ⟨k0, k1, k2, hsh, hfz⟩ := blk3 hb4
  have g4 := blk1 hg4
  replace hnl := Lib.hid hnl
  have hb4H := Lib.hid hb4
  have hspH := Lib.hid hsp3
  have fin : ∀ er, (er = errno 5) → (ok = false ∨ ¬ r3.data.toList = []) → ReadPost s w (.returned (.tuple #[.agg #[.bool false, .string ⟨#[]⟩, .slice none 0 0], er])) (((w4.setCell ⟨w.heap.size, 0, none⟩ (.bool false)).setCell ⟨w.heap.size, 1, none⟩ (.string ⟨#[]⟩)).setCell ⟨w.heap.size, 2, none⟩ (.slice none 0 0)) := by
    intro er he h
    refine ⟨.mk false [] [], _, _, _, er, rfl, FK.text _ _ ⟨#[]⟩, ⟨rfl, .inr he⟩, fun f' h1 h2 h3 => ?_, ((hB4.out.setCell (Nat.le_refl _) _).setCell (Nat.le_refl _) _).setCell (Nat.le_refl _) _⟩
    obtain ⟨e1, _, e2⟩ := hspH.out.2.2 f' [] h1 (by omega) (by rw [h3, List.append_nil])
    rcases h with h | h
    · rw [h] at e1; cases e1
    · exact absurd e2 h
  have finH := Lib.hid fin
  clear fin hx4 hb4 hg4 hF4 hFK hg3 hsp3 hT3 hb3
  cases ok with
  | false =>
    go_upto_region 5 with fail
    rw [← hw4]
    replace hw4 := Lib.hid hw4
    go_wp2_with fail
    (try simp only [Exit.inBlock, Exit.then])
    refine bodyPost_ret (results_cell_tmp rfl _ _ w.heap.size 52 #[.bool false, .string ⟨#[]⟩, .slice none 0 0] (0, 0) _ rfl (set3 hb4H.out) Tryz.underlying52 rfl (by kernel_rfl) _ rfl) rfl ?_
    exact finH.out _ rfl (.inl (by first | trivial | rfl))
  | true =>
    by_cases hr : r3.data.toList = []
    · have hr1 : r3.toList = [] := by rw [ByteArray.toList_eq]; exact hr
      replace hr := Lib.hid hr
      go_upto_region 5 with fail
      rw [← hw4]
      replace hw4 := Lib.hid hw4
      go_wp2_with fail
      (try simp only [Exit.inBlock, Exit.then])
      refine bodyPost_ret (results_cell_tmp rfl _ _ w.heap.size 52 #[.bool fb, .string ⟨ft.toArray⟩, .slice A2 nl c2] (0, 0) _ rfl (set3 hb4H.out) Tryz.underlying52 rfl (by kernel_rfl) _ rfl) rfl ?_
      refine ⟨.mk fb ft fl, _, _, _, .nilIface, rfl, ?_, ⟨hspH.out.1.2 rfl, .inl rfl⟩, fun f' h1 h2 h3 => ?_, ((hB4.out.setCell (Nat.le_refl _) _).setCell (Nat.le_refl _) _).setCell (Nat.le_refl _) _⟩
      · refine FK.move (fun b hb => ⟨⟨by have := hs1.out; omega, by rw [size_set, size_set, size_set]; have := hs4.out; omega⟩, set3_ne (by have := hs1.out; omega) _ _ _⟩) _ _ hF4H.out
      · exact ⟨rfl, (hspH.out.2.2 f' [] h1 (by omega) (by rw [h3, List.append_nil])).2.1⟩
    · have hr1 : ¬ r3.toList = [] := by rw [ByteArray.toList_eq]; exact hr
      have hr2 : r3.toList.isEmpty = false := by simpa using hr1
      replace hr := Lib.hid hr
      go_upto_region 5 with fail
      rw [← hw4]
      replace hw4 := Lib.hid hw4
      go_wp2_with fail
      (try simp only [Exit.inBlock, Exit.then])
      refine bodyPost_ret (results_cell_tmp rfl _ _ w.heap.size 52 #[.bool false, .string ⟨#[]⟩, .slice none 0 0] (0, 0) _ rfl (set3 hb4H.out) Tryz.underlying52 rfl (by kernel_rfl) _ rfl) rfl ?_
      exact finH.out _ rfl (.inr hr.out)
end Go.Proofs.YtbefkoljcacpcaaGreatDoor.Tm
