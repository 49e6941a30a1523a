/- What LawPatchInverse lean on, part l of 29: the texts TmF, ShaN, RefG, TmT, TmI, Pbottomx0, Ptopx0, Popx0, RefH, TmN. -/
import Derived.Test.YtbiioaggilaebaaGreatDoorTX0
import Derived.Test.YtbiioaggilaebaaGreatDoorTXa
import Derived.Test.YtbiioaggilaebaaGreatDoorTXb
import Derived.Test.YtbiioaggilaebaaGreatDoorTXh
import Derived.Test.YtbiioaggilaebaaGreatDoorTXi
import Derived.Test.YtbiioaggilaebaaGreatDoorTXk
import Derived.Deep.RegionLaw
import Derived.Deep.Onto
import Derived.Lib.ItoaNum
import Derived.Handy
import Derived.Test.YtbiioaggilaebaaGreatDoorProg
import Derived.Below
import Derived.Deep.Draws
import Derived.Deep.AppendLies
import Derived.Maps.AppendAt
import Derived.OwnWalk
import Derived.Laws.BytesArg
import Derived.Laws.MakeOwn
import Derived.Laws.OwnMore
import Derived.Deep.OwnRows
import Derived.Tactics
import Derived.Lib.ConvBytes
import Derived.Laws.Slices
import Derived.WalkKit
import Derived.KernelRfl
import Derived.RowKit3
import Derived.Deep.LoopGhost
import Derived.Deep.QuietTactic
import Derived.BigQuiet
import Derived.WideLaws
import Derived.Deep.DeepCutAuto
import Derived.Deep.CutBlock
import Derived.Deep.RegionHeld3
import Derived.Laws.Rows
import Derived.Lib.AppendStr
import Derived.ArgAppend
import Derived.Laws.IdiomCopy
import Derived.OrdersHeld
import Derived.Laws.BitsLemmas
import Derived.RowKit
set_option linter.all false
set_option maxRecDepth 100000
set_option maxHeartbeats 16000000
namespace Go.Proofs.YtbiioaggilaebaaGreatDoor.Tm
open Go Go.RowKit B Bld
mutual
def FK (ok : Nat -> Prop) (w : World) : F -> List Value -> Prop
 | .mk b t l, cs => ∃ A c, cs = [.bool b, .string ⟨t.toArray⟩, .slice A l.length c] /\ l.length <= c /\ l.length <= 140737488355328 /\ FKs ok w A 0 l
def FKs (ok : Nat -> Prop) (w : World) (A : Option Addr) : Nat -> List F -> Prop
 | _, [] => True
 | i, f :: l => (∃ b o c0 c1 c2, A = some ⟨b, o, none⟩ /\ ok b /\ w.cell? ⟨b, o + i * 3, none⟩ = some c0 /\ w.cell? ⟨b, o + i * 3 + 1, none⟩ = some c1 /\ w.cell? ⟨b, o + i * 3 + 2, none⟩ = some c2 /\ FK ok w f [c0, c1, c2]) /\ FKs ok w A (i + 1) l
end
mutual
theorem FK.move {ok ok' : Nat -> Prop} {w w' : World} (hm : ∀ b, ok b -> ok' b /\ w'.heap[b]? = w.heap[b]?) : ∀ (f : F) (cs : List Value), FK ok w f cs -> FK ok' w' f cs
 | .mk b t l, cs, h => by
  unfold FK at h ⊢
  obtain ⟨A, c, h1, h2, h3, h4⟩ := h
  exact ⟨A, c, h1, h2, h3, FKs.move hm l A 0 h4⟩
theorem FKs.move {ok ok' : Nat -> Prop} {w w' : World} (hm : ∀ b, ok b -> ok' b /\ w'.heap[b]? = w.heap[b]?) : ∀ (l : List F) (A : Option Addr) (i : Nat), FKs ok w A i l -> FKs ok' w' A i l
 | [], _, _, _ => by unfold FKs; trivial
 | f :: l, A, i, h => by
  unfold FKs at h ⊢
  obtain ⟨⟨b, o, c0, c1, c2, h1, h2, h3, h4, h5, h6⟩, h7⟩ := h
  have e := (hm b h2).2
  exact ⟨⟨b, o, c0, c1, c2, h1, (hm b h2).1, (World.cell?_of_block (a := ⟨b, _, none⟩) e).trans h3, (World.cell?_of_block (a := ⟨b, _, none⟩) e).trans h4, (World.cell?_of_block (a := ⟨b, _, none⟩) e).trans h5, FK.move hm f _ h6⟩, FKs.move hm l A (i + 1) h7⟩
end
mutual
theorem FK.toFV {ok : Nat -> Prop} {B : Nat} {w : World} (hm : ∀ b, ok b -> b < B) : ∀ (f : F) (cs : List Value), FK ok w f cs -> FV B w f cs
 | .mk b t l, cs, h => by
  unfold FK at h
  unfold FV
  obtain ⟨A, c, h1, h2, h3, h4⟩ := h
  exact ⟨A, c, h1, h2, h3, FKs.toFV hm l A 0 h4⟩
theorem FKs.toFV {ok : Nat -> Prop} {B : Nat} {w : World} (hm : ∀ b, ok b -> b < B) : ∀ (l : List F) (A : Option Addr) (i : Nat), FKs ok w A i l -> FVs B w A i l
 | [], _, _, _ => by unfold FVs; trivial
 | f :: l, A, i, h => by
  unfold FKs at h
  unfold FVs
  obtain ⟨⟨b, o, c0, c1, c2, h1, h2, h3, h4, h5, h6⟩, h7⟩ := h
  exact ⟨⟨b, o, c0, c1, c2, h1, hm b h2, h3, h4, h5, FK.toFV hm f _ h6⟩, FKs.toFV hm l A (i + 1) h7⟩
end
theorem FK.text (ok : Nat -> Prop) (w : World) (s : ByteArray) : FK ok w (txt s.data.toList) [.bool false, .string s, .slice none 0 0] := by
 unfold txt FK
 exact ⟨none, 0, rfl, Nat.le_refl _, by simp, by unfold FKs; trivial⟩
theorem FK.cells {ok : Nat -> Prop} {w : World} {f : F} {c0 c1 c2 : Value} (h : FK ok w f [c0, c1, c2]) : c0.oneCell' = true /\ c1.oneCell' = true /\ c2.oneCell' = true := by
 obtain ⟨b, t, l⟩ := f
 unfold FK at h
 obtain ⟨A, c, h1, _⟩ := h
 simp only [List.cons.injEq, and_true] at h1
 obtain ⟨rfl, rfl, rfl⟩ := h1
 exact ⟨rfl, rfl, rfl⟩
def FC (ok : Nat -> Prop) (w : World) : List F -> List Value -> Prop
 | [], cs => cs = []
 | f :: l, cs => ∃ c0 c1 c2 r, cs = c0 :: c1 :: c2 :: r /\ FK ok w f [c0, c1, c2] /\ FC ok w l r
theorem FC.move {ok ok' : Nat -> Prop} {w w' : World} (hm : ∀ b, ok b -> ok' b /\ w'.heap[b]? = w.heap[b]?) : ∀ {l : List F} {cs : List Value}, FC ok w l cs -> FC ok' w' l cs
 | [], _, h => h
 | f :: l, cs, ⟨c0, c1, c2, r, h1, h2, h3⟩ => ⟨c0, c1, c2, r, h1, FK.move hm f _ h2, FC.move hm h3⟩
theorem FC.snoc {ok : Nat -> Prop} {w : World} {f : F} {a b c : Value} (hf : FK ok w f [a, b, c]) : ∀ {l : List F} {cs : List Value}, FC ok w l cs -> FC ok w (l ++ [f]) (cs ++ [a, b, c])
 | [], _, h => by
  cases h
  exact ⟨a, b, c, [], rfl, hf, rfl⟩
 | g :: l, cs, ⟨c0, c1, c2, r, h1, h2, h3⟩ => ⟨c0, c1, c2, r ++ [a, b, c], by rw [h1]; rfl, h2, FC.snoc hf h3⟩
theorem FC.toFKs {ok ok' : Nat -> Prop} {w : World} {b o : Nat} (hok : ∀ k, ok k -> ok' k) (hb : ok' b) : ∀ {l : List F} {cs : List Value} (i : Nat), FC ok w l cs -> (∀ j u, cs[j]? = some u -> w.cell? ⟨b, o + i * 3 + j, none⟩ = some u) -> FKs ok' w (some ⟨b, o, none⟩) i l
 | [], _, _, _, _ => by unfold FKs; trivial
 | f :: l, cs, i, ⟨c0, c1, c2, r, h1, h2, h3⟩, hc => by
  subst h1
  unfold FKs
  refine ⟨⟨b, o, c0, c1, c2, rfl, hb, hc 0 c0 rfl, hc 1 c1 rfl, hc 2 c2 rfl, FK.move (fun k hk => ⟨hok k hk, rfl⟩) f _ h2⟩, FC.toFKs hok hb (i + 1) h3 fun j u hu => ?_⟩
  have := hc (j + 3) u (by simpa using hu)
  rwa [show o + i * 3 + (j + 3) = o + (i + 1) * 3 + j from by omega] at this
def Bag (base : Nat) (w : World) (v : Value) (L : List F) : Prop :=
 ∃ cs, w.ownsRow base 74 3 v L.length cs /\ FC (fun b => base <= b /\ b < w.heap.size /\ some b ≠ v.ownBlock) w L cs
theorem Bag.nil (base : Nat) (w : World) : Bag base w (.slice none 0 0) [] := ⟨[], ⟨rfl, .inl ⟨rfl, rfl⟩⟩, rfl⟩
theorem Bag.lt {base : Nat} {w : World} {v : Value} {L : List F} (h : Bag base w v L) (k : Nat) (hk : v.ownBlock = some k) : base <= k /\ k < w.heap.size := by
 obtain ⟨cs, h1, _⟩ := h
 have := h1.lt k hk
 exact ⟨this.1, this.2⟩
theorem Bag.keep {base : Nat} {w w' : World} {v : Value} {L : List F} (h : Bag base w v L) (hk : ∀ b, base <= b -> b < w.heap.size -> w'.heap[b]? = w.heap[b]?) (hs : w.heap.size <= w'.heap.size) : Bag base w' v L := by
 have hlt := h.lt
 obtain ⟨cs, h1, h2⟩ := h
 refine ⟨cs, ?_, FC.move (fun b hb => ⟨⟨hb.1, Nat.lt_of_lt_of_le hb.2.1 hs, hb.2.2⟩, hk b hb.1 hb.2.1⟩) h2⟩
 obtain ⟨k1, k2⟩ := h1
 refine ⟨k1, ?_⟩
 rcases k2 with k2 | ⟨g, cap, cur, e1, e2, e3, e4⟩
 . exact .inl k2
 . have := hlt g (by rw [e1]; rfl)
   exact .inr ⟨g, cap, cur, e1, e2, (hk g e2 this.2).trans e3, e4⟩
theorem Bag.push {base : Nat} {w w' : World} {v : Value} {L : List F} {cs : List Value} {f : F} {a b c : Value} {g cap : Nat} (h2 : FC (fun b => base <= b /\ b < w.heap.size /\ some b ≠ v.ownBlock) w L cs)
 (hf : FK (fun b => base <= b /\ b < w.heap.size /\ some b ≠ v.ownBlock) w f [a, b, c])
 (ho : w'.ownsRow base 74 3 (.slice (some ⟨g, 0, none⟩) (L.length + 1) cap) (L.length + 1) (cs ++ [a, b, c])) (hg : w.grownBy w' v.ownBlock) (hv : v.ownBlock = some g \/ w.heap.size <= g) :
 Bag base w' (.slice (some ⟨g, 0, none⟩) (L.length + 1) cap) (L ++ [f]) := by
 have hm : ∀ b, (base <= b /\ b < w.heap.size /\ some b ≠ v.ownBlock) -> (base <= b /\ b < w'.heap.size /\ some b ≠ (Value.slice (some ⟨g, 0, none⟩) (L.length + 1) cap).ownBlock) /\ w'.heap[b]? = w.heap[b]? := by
  intro b ⟨h1, h2, h3⟩
  refine ⟨⟨h1, Nat.lt_of_lt_of_le h2 hg.size, ?_⟩, hg.block b h2 h3⟩
  show some b ≠ some g
  intro e
  injection e with e
  subst e
  rcases hv with hv | hv
  . exact h3 hv.symm
  . omega
 have e : (L ++ [f]).length = L.length + 1 := by simp
 exact ⟨cs ++ [a, b, c], by rw [e]; exact ho, FC.snoc (FK.move hm f _ hf) (FC.move hm h2)⟩
theorem Bag.form {base : Nat} {w : World} {v : Value} {L : List F} (h : Bag base w v L) : ∃ A c, v = .slice A L.length c /\ L.length <= c /\ c <= maxLen /\ FKs (fun b => base <= b /\ b < w.heap.size) w A 0 L := by
 have hlt := h.lt
 obtain ⟨cs, ⟨k1, k2⟩, h2⟩ := h
 rcases k2 with ⟨rfl, h0⟩ | ⟨g, cap, cur, rfl, e2, e3, e4, e5, e6, e7⟩
 . obtain rfl : L = [] := List.eq_nil_of_length_eq_zero h0
   exact ⟨none, 0, rfl, Nat.le_refl _, by decide, by unfold FKs; trivial⟩
 . refine ⟨some ⟨g, 0, none⟩, cap, rfl, e4, e5, FC.toFKs (fun k hk => ⟨hk.1, hk.2.1⟩) (hlt g rfl) 0 h2 fun j u hu => ?_⟩
   have hj : j < L.length * 3 := by
    rw [<- k1]
    exact (List.getElem?_eq_some_iff.1 hu).1
   rw [show 0 + 0 * 3 + j = j from by omega, cell_of e3]
   rw [<- e7, List.getElem?_take, if_pos hj, Array.getElem?_toList] at hu
   exact hu
mutual
def F.small : F -> Bool
 | .mk _ t l => decide (t.length <= 65536) && decide (l.length <= 65536) && smalls l
def smalls : List F -> Bool
 | [] => true
 | f :: l => f.small && smalls l
end
theorem smalls_append : ∀ {a b : List F}, smalls (a ++ b) = (smalls a && smalls b)
 | [], b => by rw [List.nil_append, smalls, Bool.true_and]
 | f :: a, b => by rw [List.cons_append, smalls, smalls, smalls_append, Bool.and_assoc]
theorem small_txt (t : List UInt8) (h : t.length <= 65536) : (txt t).small = true := by
 unfold txt F.small smalls
 simp [h]
theorem small_lst (l : List F) (hl : l.length <= 65536) (h : smalls l = true) : (F.mk true [] l).small = true := by
 rw [F.small, h, decide_eq_true hl]
 rfl
theorem list_head {f : F} {x s : List UInt8} (hf : f.right = true) (h : 40 :: s = f.bytes ++ x) : ∃ gs, f = .mk true [] gs /\ rights gs = true /\ s = bytess gs ++ 41 :: x := by
 obtain ⟨b, t, l⟩ := f
 cases b with
 | true =>
  unfold F.right at hf
  simp only [Bool.and_eq_true] at hf
  have ht : t = [] := by simpa using hf.1
  subst ht
  unfold F.bytes at h
  simp only [List.cons_append, List.append_assoc, List.cons.injEq, true_and, List.nil_append] at h
  exact ⟨l, rfl, hf.2, h⟩
 | false =>
  unfold F.right at hf
  have : l = [] := by simpa using hf
  subst this
  obtain ⟨c, r, h1, h2⟩ := text_head t
  rw [h1] at h
  simp only [List.cons_append, List.cons.injEq] at h
  rw [<- h.1] at h2
  simp at h2
theorem text_form {f : F} {x s : List UInt8} (hf : f.right = true) (h : s = f.bytes ++ x) (h0 : s[0]? ≠ some 40) : ∃ t, f = txt t /\ s = Lib.decDigits t.length ++ 58 :: (t ++ x) := by
 obtain ⟨b, t, l⟩ := f
 cases b with
 | true =>
  exfalso
  unfold F.bytes at h
  rw [h] at h0
  simp at h0
 | false =>
  unfold F.right at hf
  have : l = [] := by simpa using hf
  subst this
  refine ⟨t, rfl, ?_⟩
  rw [h, F.bytes]
  simp
def ItemSpec (deep : Nat) (s : List UInt8) (f : F) (ok : Bool) (r : List UInt8) : Prop :=
 (r.length <= s.length /\ (ok = true -> f.small = true)) /\ (ok = true -> r.length < s.length) /\ ∀ f' x, f'.right = true -> f'.depth + deep <= 8 -> s = f'.bytes ++ x -> ok = true /\ f = f' /\ r = x
def LoopSpec (deep : Nat) (s : List UInt8) (L : List F) (r : List UInt8) : Prop :=
 (r.length + L.length <= s.length /\ smalls L = true) /\ ∀ gs x, rights gs = true -> depths gs + 1 + deep <= 8 -> s = bytess gs ++ 41 :: x -> ∃ more, gs = L ++ more /\ r = bytess more ++ 41 :: x
theorem loop_zero (deep : Nat) (s : List UInt8) : LoopSpec deep s [] s := ⟨⟨by simp, by rw [smalls]⟩, fun gs x _ _ h => ⟨gs, rfl, h⟩⟩
theorem rights_append : ∀ {a b : List F}, rights (a ++ b) = (rights a && rights b)
 | [], b => rfl
 | f :: a, b => by rw [List.cons_append, rights, rights, rights_append, Bool.and_assoc]
theorem depths_append : ∀ {a b : List F}, depths (a ++ b) = max (depths a) (depths b)
 | [], b => by simp [depths]
 | f :: a, b => by rw [List.cons_append, depths, depths, depths_append, Nat.max_assoc]
theorem loop_split {deep : Nat} {s : List UInt8} {L : List F} {r : List UInt8} (h : LoopSpec deep s L r) (h0 : r[0]? ≠ some 41) {gs : List F} {x : List UInt8} (hr : rights gs = true) (hd : depths gs + 1 + deep <= 8) (hs : s = bytess gs ++ 41 :: x) :
 ∃ m ms, gs = L ++ m :: ms /\ m.right = true /\ m.depth + (deep + 1) <= 8 /\ r = m.bytes ++ (bytess ms ++ 41 :: x) := by
 obtain ⟨more, h1, h2⟩ := h.2 gs x hr hd hs
 cases more with
 | nil =>
  exfalso
  rw [h2] at h0
  simp [bytess] at h0
 | cons m ms =>
  rw [h1, rights_append, Bool.and_eq_true, rights, Bool.and_eq_true] at hr
  rw [h1, depths_append, depths] at hd
  refine ⟨m, ms, h1, hr.2.1, by omega, ?_⟩
  rw [h2, bytess, List.append_assoc]
theorem loop_step {deep : Nat} {s : List UInt8} {L : List F} {r r' : List UInt8} {f : F} (h : LoopSpec deep s L r) (h0 : r[0]? ≠ some 41) (hi : ItemSpec (deep + 1) r f true r') : LoopSpec deep s (L ++ [f]) r' := by
 refine ⟨⟨by have := h.1.1; have := hi.2.1 rfl; simp; omega, by rw [smalls_append, h.1.2, smalls, smalls, hi.1.2 rfl]; rfl⟩, fun gs x hr hd hs => ?_⟩
 obtain ⟨m, ms, h1, h2, h3, h4⟩ := loop_split h h0 hr hd hs
 obtain ⟨_, rfl, rfl⟩ := hi.2.2 m _ h2 h3 h4
 exact ⟨ms, by simp [h1], rfl⟩
theorem item_fail {deep : Nat} {s : List UInt8} {L : List F} {r r' : List UInt8} {f : F} (h : LoopSpec deep s L r) (h0 : r[0]? ≠ some 41) (hi : ItemSpec (deep + 1) r f false r') (f0 : F) : ItemSpec deep (40 :: s) f0 false r' := by
 refine ⟨⟨by have := h.1.1; have := hi.1.1; simp; omega, fun h => (by cases h)⟩, fun h => (by cases h), fun f' x hr hd hs => ?_⟩
 exfalso
 obtain ⟨gs, rfl, h1, h2⟩ := list_head hr hs
 unfold F.depth at hd
 obtain ⟨m, ms, _, h4, h5, h6⟩ := loop_split h h0 h1 (by omega) h2
 exact absurd (hi.2.2 m _ h4 h5 h6).1 (by simp)
theorem item_stop {deep : Nat} {s : List UInt8} {L : List F} {r : List UInt8} (h : LoopSpec deep s L r) (h0 : 8 <= deep \/ r = []) (f0 : F) : ItemSpec deep (40 :: s) f0 false r := by
 refine ⟨⟨by have := h.1.1; simp; omega, fun h => (by cases h)⟩, fun h => (by cases h), fun f' x hr hd hs => ?_⟩
 exfalso
 obtain ⟨gs, rfl, h1, h2⟩ := list_head hr hs
 unfold F.depth at hd
 rcases h0 with h0 | h0
 . omega
 . obtain ⟨more, _, h4⟩ := h.2 gs x h1 (by omega) h2
   rw [h0] at h4
   simp at h4
theorem item_end {deep : Nat} {s : List UInt8} {L : List F} {r : List UInt8} (h : LoopSpec deep s L (41 :: r)) (hb : L.length <= 65536) : ItemSpec deep (40 :: s) (.mk true [] L) true r := by
 have hl := h.1.1
 simp only [List.length_cons] at hl
 refine ⟨⟨by simp; omega, fun _ => small_lst L hb h.1.2⟩, fun _ => by simp; omega, fun f' x hr hd hs => ?_⟩
 obtain ⟨gs, rfl, h1, h2⟩ := list_head hr hs
 unfold F.depth at hd
 obtain ⟨more, h3, h4⟩ := h.2 gs x h1 (by omega) h2
 cases more with
 | nil =>
  simp only [bytess, List.nil_append, List.cons.injEq, true_and] at h4
  rw [h3, List.append_nil]
  exact ⟨rfl, rfl, h4⟩
 | cons m ms =>
  exfalso
  rw [h3, rights_append, Bool.and_eq_true, rights, Bool.and_eq_true] at h1
  obtain ⟨c, q, h5, h6⟩ := form_head m h1.2.1
  rw [bytess, h5] at h4
  simp only [List.cons_append, List.cons.injEq] at h4
  rw [<- h4.1] at h6
  simp at h6
theorem bytes_len (t : List UInt8) : t.length <= (txt t).bytes.length := by
 unfold txt F.bytes
 simp; omega
theorem item_text {deep : Nat} {s r : List UInt8} {n : Int} {ok : Bool} (h0 : s[0]? ≠ some 40) (hs : s.length <= 65536) (h : LenSpec s n ok r) (hok : ok = true) : ItemSpec deep s (txt (r.take n.toNat)) true (r.drop n.toNat) := by
 obtain ⟨h1, h2, h3⟩ := h
 obtain ⟨h4, h5, h6⟩ := h2 hok
 refine ⟨⟨by rw [List.length_drop]; omega, fun _ => small_txt _ (by rw [List.length_take]; omega)⟩, fun _ => by rw [List.length_drop]; omega, fun f' x hr hd hs' => ?_⟩
 obtain ⟨t, rfl, h7⟩ := text_form hr hs' h0
 have ht := bytes_len t
 have : s.length = ((txt t).bytes ++ x).length := by rw [hs']
 rw [List.length_append] at this
 obtain ⟨_, rfl, rfl⟩ := h3 t x (by omega) h7
 rw [show ((t.length : Int)).toNat = t.length from by omega, List.take_left' rfl, List.drop_left' rfl]
 exact ⟨rfl, rfl, rfl⟩
theorem item_notext {deep : Nat} {s r : List UInt8} {n : Int} {ok : Bool} (h0 : s[0]? ≠ some 40) (hs : s.length <= 65536) (h : LenSpec s n ok r) (hok : ok = false) (f0 : F) : ItemSpec deep s f0 false r := by
 obtain ⟨h1, h2, h3⟩ := h
 refine ⟨⟨h1, fun h => (by cases h)⟩, fun h => (by cases h), fun f' x hr hd hs' => ?_⟩
 exfalso
 obtain ⟨t, rfl, h7⟩ := text_form hr hs' h0
 have ht := bytes_len t
 have : s.length = ((txt t).bytes ++ x).length := by rw [hs']
 rw [List.length_append] at this
 have := (h3 t x (by omega) h7).1
 rw [hok] at this
 cases this
end Go.Proofs.YtbiioaggilaebaaGreatDoor.Tm
namespace Go.Proofs.YtbiioaggilaebaaGreatDoor.Sha
open Go.RowKit B
theorem Hex_any (b : ByteArray) (hsz : b.size <= 70368744177664) (w : World) :
 Calls Tryz.prog 73 #[.string b] w fun e w' => e = .returned (.string ⟨(hexL b.data.toList).toArray⟩) /\ Tch (fun _ => False) w w' := by
 have hsz := lh hsz
 obtain ⟨cap, w1, cells, fz, hcv, hbw, hsz1, hg, hcs, hcap, htk, hfz, _⟩ := bytes_of w b
 have hown0 := lh (own_nil w1 w1.heap.size)
 have hbw := lh hbw
 have hcs := lh hcs
 have htk := lh htk
 have hg := lh hg
 clear hfz hcap
 obtain ⟨i8, hi8, hz8, hs8, hb8⟩ := info8
 go_enter Tryz.func73, Tryz.ntmps73
 go_wp2_with fail
 go_loopg [3, 9] b.size (fun g v i W => ∃ j : Nat, g = b.size - j /\ j <= b.size /\ i = .int .i64 j /\ W.ownsRow w1.heap.size 5 1 v (j * 2) (bc (hexL (b.data.toList.take j))) /\ Tch (fun _ => False) w1 W)
 case atStart => exact ⟨0, rfl, by omega, rfl, hown0.out, Tch.refl _ _⟩
 case round =>
  clear hown0
  obtain ⟨j, hgj, hj, rfl, ho, ht⟩ := hrel
  subst hgj
  by_cases hjl : j < b.size
  . have hcell := byte_cell (ht.heap hg.out (fun e => e)) htk.out j hjl
    have hji : (j : Int) < (b.size : Int) := by omega
    have hoH := lh ho
    have htH := lh ht
    clear ho ht
    generalize hc : b.data.toList.getD j 0 = c at hcell
    replace hc := lh hc
    obtain ⟨n, hn⟩ : ∃ n : Int, (c.toNat : Int) = n := ⟨_, rfl⟩
    rw [hn] at hcell
    have hn0 : (0 : Int) <= n / 16 := by have := c.toNat_lt; omega
    have hn1 : n / 16 < 16 := by have := c.toNat_lt; omega
    have hn2 : bits .and .u8 n 15 = n % 16 := nib2 hn
    have hn3 : (0 : Int) <= n % 16 := by omega
    have hn4 : n % 16 < 16 := by omega
    replace hn := lh hn
    have hnx : ∀ (w2 : World) (v : Value) (news : List Value), w2.ownsRow w1.heap.size 5 1 v (j * 2 + 2) (bc (hexL (b.data.toList.take j)) ++ news) -> news = bc [dig (c.toNat / 16), dig (c.toNat % 16)] ->
     w2.ownsRow w1.heap.size 5 1 v ((j + 1) * 2) (bc (hexL (b.data.toList.take (j + 1)))) := by
     intro w2 v news h1 h2
     subst h2
     rw [hex_next j (by rw [len_list]; exact hjl), hc.out, bc_append, show (j + 1) * 2 = j * 2 + 2 from by omega]; exact h1
    have hfin := lh hnx
    clear hnx
    go_wp2_with fail
    go_region_law
     ((refine step_append_lies _ (by rfl) _ _ _ (by rfl) w1.heap.size 5 i8 _ 1 1 Tryz.underlying69 hi8 hz8 hs8 hb8 rfl (by omega) u3 (j * 2) _ (by rfl) (hoH.out.alloc _).drew ⟨wr.heap.size, 0, none⟩ 2 2 _ (by rfl) (by rfl) (World.news_of_block (heap_alloc_at wr _)) (by simp [Value.oneCell']) (by omega) (by unfold maxLen; have := hsz.out; omega) (by have := hsz.out; omega) (by have := htH.out.size; simp; omega) (wr.heap.size + 1) (by simp) ?_; intro g cap2 w2 hown1 hgrow hat hlt))
    all_goals (try go_wp2_with fail)
    all_goals go_roundg (b.size - (j + 1))
    case measure => omega
    case measure => omega
    all_goals exact ⟨j + 1, rfl, by omega, by go_num, hfin.out _ _ _ hown1 (by simp only [bc, List.map_cons, List.map_nil, digat]; rw [show (n / 16).toNat = c.toNat / 16 from by have := hn.out; omega, show (n % 16).toNat = c.toNat % 16 from by have := hn.out; omega]), own_tch (htH.out.alloc _) (hoH.out.alloc _) (Nat.le_refl _) (undrew hgrow)⟩
  . have hji : ¬ (j : Int) < (b.size : Int) := by omega
    obtain rfl : j = b.size := by omega
    rw [List.take_of_length_le (by rw [len_list]; exact Nat.le_refl _), <- hexL_len' b] at ho
    have hcv := own_conv _ _ _ _ ho
    have htH := lh ht
    clear ho ht
    generalize hout : (⟨(hexL b.data.toList).toArray⟩ : ByteArray) = out at hcv
    replace hout := lh hout
    go_wp2_with fail
    go_ret
    exact ⟨by rw [hout.out]; rfl, (Tch.of_new hbw.out).trans (htH.out.mono fun _ h => h)⟩
def nameL (s : List UInt8) : List UInt8 := hexL (shaL K H0 s)
theorem shaL_len (s : List UInt8) : (shaL K H0 s).length = 32 := by
 unfold shaL
 rw [flat_len (runs_length K _ H0 _ (Nat.le_refl _) rfl)]
theorem sha_size (s : ByteArray) : (sha K H0 s).size = 32 := by rw [<- len_list]; unfold sha; rw [List.toList_toArray, shaL_len]
theorem Name_any (s : ByteArray) (hsz : s.size <= 140737488351232) (w : World) :
 Calls Tryz.prog 37 #[.string s] w fun e w' => e = .returned (.string ⟨(nameL s.data.toList).toArray⟩) /\ Tch (fun _ => False) w w' := by
 have hC := lh (Sum_any s hsz w)
 have hH := lh (fun w' => Hex_any (sha K H0 s) (by rw [sha_size]; omega) w')
 have hn : (⟨(hexL (sha K H0 s).data.toList).toArray⟩ : ByteArray) = ⟨(nameL s.data.toList).toArray⟩ := by unfold sha nameL; rw [List.toList_toArray]
 have hn := lh hn
 generalize sha K H0 s = d at hC hH hn
 go_enter Tryz.func37, Tryz.ntmps37
 go_wp2_with (first
  | (go_at_call 74; refine (hC.out).mono ?_; rintro e w1 ⟨rfl, h1⟩; have h1 := lh h1)
  | (go_at_call 73; refine (hH.out _).mono ?_; rintro e w2 ⟨rfl, h2⟩; have h2 := lh h2))
 go_ret
 exact ⟨by rw [<- hn.out]; rfl, h1.out.trans h2.out⟩
end Go.Proofs.YtbiioaggilaebaaGreatDoor.Sha
namespace Go.Proofs.YtbiioaggilaebaaGreatDoor.Ref
open Go.RowKit B Sha
def uvs (l : List (BitVec 32)) : List Value := l.map uv
theorem uvs_append (a b : List (BitVec 32)) : uvs (a ++ b) = uvs a ++ uvs b := List.map_append ..
theorem info32 : (Tryz.prog.info? 138).map (fun i => (i.zero, i.size, i.bytes)) = some (some (.int .u32 0), 1, 4) := by kernel_rfl
theorem rootN_lt (p q : Nat) : rootN p q < 4294967296 := Nat.mod_lt _ (by omega)
theorem tab_next (T q j : Nat) (hj : j < (pst T).length) : (tab 0 T q).take (j + 1) = (tab 0 T q).take j ++ [BitVec.ofNat 32 (rootN ((pst T).getD j 0) q)] := by
 rw [List.take_add_one]
 congr 1
 unfold tab
 rw [List.getElem?_map, List.getElem?_eq_getElem hj, List.getD_eq_getElem?_getD, List.getElem?_eq_getElem hj]
 rfl
theorem tab_app {w w0 w1 : World} {g cap T q j : Nat} {v : Value} {o : Obj} (ho : w.ownsRow w0.heap.size 138 1 v j (uvs ((tab 0 T q).take j))) (hj : j < (pst T).length) (ht : Tch (fun _ => False) w0 w)
 (h1 : w1.ownsRow w0.heap.size 138 1 (.slice (some ⟨g, 0, none⟩) (j + 1) cap) (j + 1) (uvs ((tab 0 T q).take j) ++ [.int .u32 ((rootN ((pst T).getD j 0) q : Nat) : Int)])) (h2 : (w.alloc o).grownBy w1 v.ownBlock) :
 w1.ownsRow w0.heap.size 138 1 (.slice (some ⟨g, 0, none⟩) (j + 1) cap) (j + 1) (uvs ((tab 0 T q).take (j + 1))) /\ Tch (fun _ => False) w0 w1 := by
 rw [tab_next T q j hj, uvs_append]
 have e : uvs [BitVec.ofNat 32 (rootN ((pst T).getD j 0) q)] = [.int .u32 ((rootN ((pst T).getD j 0) q : Nat) : Int)] := by
  simp only [uvs, uv, List.map_cons, List.map_nil, nv_of _ (rootN_lt _ _)]
 rw [e]
 exact ⟨h1, own_tch (ht.alloc _) (ho.alloc _) (Nat.le_refl _) h2⟩
theorem Table_any (n T q : Nat) (hn : 1 <= n) (hn1 : n <= 100) (hT : T <= 400) (h1 : ∀ t, t < T -> (pst t).length < n) (h2 : (pst T).length = n) (hq1 : 1 <= q) (hq : q <= 3) (w : World) :
 Calls Tryz.prog 91 #[.int .i64 (n : Int), .int .i64 (q : Int)] w fun e w' => ∃ v, e = .returned v /\ w'.ownsRow w.heap.size 138 1 v n (uvs (tab 0 T q)) /\ Tch (fun _ => False) w w' := by
 obtain ⟨i3, hi3, hz3, hs3, hb3⟩ := info_parts info32
 have hC := lh (primes_any n T hn hn1 hT h1 h2 w)
 have h2H := lh h2
 have hsm := lh (pst_small T)
 clear h1 h2
 go_enter Tryz.func91, Tryz.ntmps91
 go_wp2_with (go_at_call 130; refine (hC.out).mono ?_; rintro e w1 ⟨vp, rfl, hp, htp⟩; obtain ⟨gp, cp, rfl, hcp⟩ := hp; replace hcp := lh hcp; replace htp := lh htp)
 have hst := lh (show w1.ownsRow w1.heap.size 138 1 (.slice none 0 0) 0 (uvs ((tab 0 T q).take 0)) from ⟨rfl, .inl ⟨rfl, rfl⟩⟩)
 have hlen : ((pst T).length : Int) = (n : Int) := by have := h2H.out; omega
 go_loopg [5, 7] n (fun g v i W => ∃ j : Nat, g = n - j /\ j <= n /\ i = .int .i64 j /\ W.ownsRow w1.heap.size 138 1 v j (uvs ((tab 0 T q).take j)) /\ Tch (fun _ => False) w1 W)
 case atStart => exact ⟨0, rfl, by omega, rfl, hst.out, Tch.refl _ _⟩
 case round =>
  clear hst hC
  obtain ⟨j, hg, hj, rfl, ho, ht⟩ := hrel
  subst hg
  by_cases hjl : j < n
  . have hc := ht.cell (hcp.out j (by have := h2H.out; omega)) (fun e => e)
    have hji : (j : Int) < (n : Int) := by omega
    have hd := hsm.out ((pst T).getD j 0) (by rw [List.getD_eq_getElem?_getD, List.getElem?_eq_getElem (by have := h2H.out; omega)]; exact List.getElem_mem _)
    have hR := lh (root_any ((pst T).getD j 0) q hq1 hq (by omega) wr)
    have hoH := lh ho
    have htH := lh ht
    have hap := lh (fun g cap w1 w2 o (h0 : Tch (fun _ => False) wr w2) ho h1 h2 => tab_app (w := w2) (w1 := w1) (g := g) (cap := cap) (o := o) (v := u5) (q := q) ho (show j < (pst T).length from by have := h2H.out; omega) (htH.out.trans h0) h1 h2)
    clear ho ht
    generalize (pst T).getD j 0 = p at *
    generalize rootN p q = rr at *
    go_wp2_with (first
     | (go_at_call 131; refine (hR.out).mono ?_; rintro e w2 ⟨rfl, hw2⟩; have hw2H := lh hw2; have hown2 := lh (own_keep hoH.out hw2); clear hw2)
     | (at_builtin; refine wpList_append_lies _ (by rfl) _ _ _ (by rfl) w1.heap.size 138 i3 _ 1 4 Tryz.underlying135 hi3 hz3 hs3 hb3 rfl (by omega) u5 j _ (by rfl) (hown2.out.alloc _) ⟨w2.heap.size, 0, none⟩ 1 1 [.int .u32 (rr : Int)] (by rfl) (by rfl) (World.news_of_block (heap_alloc_at w2 _)) (by simp [Value.oneCell']) (by omega) (by unfold maxLen; omega) (by omega) (by simp; have := htH.out.size; have := hw2H.out.size; omega) (w2.heap.size + 1) (by simp) ?_; intro g cap w3 hown1 hgrow hat hlt))
    go_roundg (n - (j + 1))
    case measure => omega
    case rel =>
     have := hap.out _ _ _ _ _ hw2H.out hown2.out hown1 hgrow
     exact ⟨j + 1, rfl, by omega, by go_num, this.1, this.2⟩
  . obtain rfl : j = n := by omega
    rw [List.take_of_length_le (by unfold tab; rw [List.length_map, h2H.out]; exact Nat.le_refl _)] at ho
    have hoH := lh ho
    have htH := lh ht
    clear ho ht
    go_wp2_with fail
    go_ret
    exact ⟨_, rfl, hoH.out.mono htp.out.size, htp.out.trans htH.out⟩
theorem tabH' : tab 0 18 2 = H0 := tabH
theorem tabK' : tab 0 310 3 = K := tabK
theorem TableH (w : World) : Calls Tryz.prog 91 #[.int .i64 8, .int .i64 2] w fun e w' => ∃ v, e = .returned v /\ w'.ownsRow w.heap.size 138 1 v 8 (uvs H0) /\ Tch (fun _ => False) w w' := by
 have := Table_any 8 18 2 (by omega) (by omega) (by omega) (fun t ht => Nat.lt_of_le_of_lt (pst_mono t 17 (by omega)) pst8.1) pst8.2 (by omega) (by omega) w
 rwa [tabH'] at this
theorem TableK (w : World) : Calls Tryz.prog 91 #[.int .i64 64, .int .i64 3] w fun e w' => ∃ v, e = .returned v /\ w'.ownsRow w.heap.size 138 1 v 64 (uvs K) /\ Tch (fun _ => False) w w' := by
 have := Table_any 64 310 3 (by omega) (by omega) (by omega) (fun t ht => Nat.lt_of_le_of_lt (pst_mono t 309 (by omega)) pst64.1) pst64.2 (by omega) (by omega) w
 rwa [tabK'] at this
end Go.Proofs.YtbiioaggilaebaaGreatDoor.Ref
namespace Go.Proofs.YtbiioaggilaebaaGreatDoor.Tm
open Go
theorem dec_len5 (n : Nat) (h : n <= 65536) : (Lib.decDigits n).length <= 5 := by
 have e : ∀ n, n < 100000 -> (Lib.decDigits n).length <= 5 := by
  intro n hn
  rw [Lib.decDigits]; split
  . simp
  . rw [List.length_append, Lib.decDigits]; split
    . simp
    . rw [List.length_append, Lib.decDigits]; split
      . simp
      . rw [List.length_append, Lib.decDigits]; split
        . simp
        . rw [List.length_append, Lib.decDigits, dif_pos (by omega)]; simp
 exact e n (by omega)
end Go.Proofs.YtbiioaggilaebaaGreatDoor.Tm
namespace Go.Proofs.YtbiioaggilaebaaGreatDoor.Tm
open Go Go.RowKit B Bld Sha
def ItemPost (g deep : Nat) (s : ByteArray) (w : World) (ev : Ending) (w' : World) : Prop :=
 ∃ f c0 c1 c2 ok r, ev = .returned (.tuple #[.agg #[c0, c1, c2], .bool ok]) /\ FK (fun b => w.heap.size <= b /\ b < w'.heap.size) w' f [c0, c1, c2] /\ RdAt w' g r /\ ItemSpec deep s.data.toList f ok r.data.toList /\ Tch (fun k => k = g) w w'
theorem results_cell_tmp {P : Program} {fn : Func} {p q : Tmp} {ty : TypeId} (h : fn.results = #[.cell p ty, .tmp q]) (tmps : Array Value) (w : World) (g : Nat) (t : TypeId) (cs : Array Value) (fr : Nat × Nat) (d : TypeDesc)
 (hp : tmps.getD p undef = .pointer (some ⟨g, 0, none⟩)) (hg : w.heap[g]? = some (.cells cs t fr))
 (hu : P.underlying ty = some d) (hd : (match d with | .struct _ | .array _ _ => true | _ => false) = true) (hi : (P.info? ty).map (·.size) = some cs.size) (v : Value) (hq : tmps.getD q undef = v) :
 (results fn tmps).run P w = .ok (.tuple #[.agg cs, v]) w := by
 have hp' : tmps[p]?.getD undef = .pointer (some ⟨g, 0, none⟩) := by simpa using hp
 have hq' : tmps[q]?.getD undef = v := by simpa using hq
 simp [results, h, hp', hq', asAddr, run_loadVar_row w g t ty cs fr d hg hu hd hi]
theorem tch_set3 {w w' : World} {S : Nat -> Prop} {g : Nat} (h : Tch S w w') (hg : w.heap.size <= g) (x y z : Value) : Tch S w (((w'.setCell ⟨g, 0, none⟩ x).setCell ⟨g, 1, none⟩ y).setCell ⟨g, 2, none⟩ z) :=
 ((h.setNew ⟨g, 0, none⟩ hg x).setNew ⟨g, 1, none⟩ hg y).setNew ⟨g, 2, none⟩ hg z
theorem set3_ne {w : World} {g k : Nat} (h : k ≠ g) (x y z : Value) : (((w.setCell ⟨g, 0, none⟩ x).setCell ⟨g, 1, none⟩ y).setCell ⟨g, 2, none⟩ z).heap[k]? = w.heap[k]? := by
 rw [heap_set_ne _ _ _ _ h, heap_set_ne _ _ _ _ h, heap_set_ne _ _ _ _ h]
theorem item_text_c (g deep : Nat) (s : ByteArray) (w : World) (hg : RdAt w g s) (hs : s.size <= 65536) (h0 : s.data.toList[0]? ≠ some 40) :
 Calls Tryz.prog 93 #[.pointer (some ⟨g, 0, none⟩), .int .i64 deep] w (ItemPost g deep s w) := by
 obtain ⟨w0, hw0⟩ : ∃ w0, w0 = w.alloc (.cells #[.bool false, .string ⟨#[]⟩, .slice none 0 0] 74) := ⟨_, rfl⟩
 have hg0 : RdAt w0 g s := by rw [hw0]; unfold RdAt; rw [heap_alloc_lt _ _ _ (heap_lt hg)]; exact hg
 have hr0 : w0.heap[w.heap.size]? = some (.cells #[.bool false, .string ⟨#[]⟩, .slice none 0 0] 74 (0, 0)) := by rw [hw0]; exact heap_alloc_at _ _
 have ht0 : Tch (fun k => k = g) w w0 := by rw [hw0]; exact (Tch.refl _ _).alloc _
 have hne : w.heap.size ≠ g := by have := heap_lt hg; omega
 have hc0 : w0.cell? ⟨g, 0, none⟩ = some (.string s) := by rw [cell_of hg0]; rfl
 have CP := Tryz.strings_HasPrefix s ⟨#[40]⟩ w0
 have hpre : Lib.hasPrefix s.data.toList (⟨#[40]⟩ : ByteArray).data.toList = false := by
  show [40].isPrefixOf s.data.toList = false
  generalize s.data.toList = l at *
  cases l with
  | nil => rfl
  | cons a l =>
   simp only [List.getElem?_cons_zero, ne_eq, Option.some.injEq] at h0
   simp [List.isPrefixOf]
   intro e; exact absurd e.symm h0
 rw [hpre] at CP
 have CL := length_c g s w0 hg0 hs
 have CPH := lh CP
 have CLH := lh CL
 have hsz0 : w0.heap.size = w.heap.size + 1 := by rw [hw0]; simp
 replace hg0 := lh hg0
 replace hr0 := lh hr0
 replace ht0 := lh ht0
 replace hne := lh hne
 replace h0 := lh h0
 replace hsz0 := lh hsz0
 replace hs := lh hs
 clear CP CL hpre hg
 go_enter Tryz.func93, Tryz.ntmps93
 go_upto_region 1 with fail
 rw [<- hw0]
 replace hw0 := lh hw0
 go_wp2_with fail
 refine (CPH.out).mono ?_
 rintro ev w1 ⟨rfl, rfl⟩
 go_wp2_with fail
 refine (CLH.out).mono ?_
 rintro ev w2 ⟨n, ok, r, rfl, hg2, hl2, ht2⟩
 have hr2 := lh (ht2.heap hr0.out hne.out)
 have ht2H := lh (ht0.out.trans ht2)
 have hg2H := lh hg2
 have hrs : r.size <= s.size := by have := hl2.1; rwa [toList_size, toList_size] at this
 have hlt : w.heap.size < w2.heap.size := Nat.lt_of_lt_of_le (by rw [hsz0.out]; omega) ht2.size
 have hc2 : w2.cell? ⟨g, 0, none⟩ = some (.string r) := by rw [cell_of hg2]; rfl
 have hf2 : w2.frozen? ⟨g, 0, none⟩ = false := fr_of hg2 0
 clear ht2 hg2
 cases ok with
 | false =>
  have hsp := lh (item_notext (deep := deep) h0.out (by rw [toList_size]; exact hs.out) hl2 rfl (.mk false [] []))
  clear hl2
  have k0 : w2.cell? ⟨w.heap.size, 0, none⟩ = some (.bool false) := by rw [cell_of hr2.out]; rfl
  have k1 : w2.cell? ⟨w.heap.size, 1, none⟩ = some (.string ⟨#[]⟩) := by rw [cell_of hr2.out]; rfl
  have k2 : w2.cell? ⟨w.heap.size, 2, none⟩ = some (.slice none 0 0) := by rw [cell_of hr2.out]; rfl
  have hsh : w2.shape? w.heap.size = some (74, 3) := by simp [World.shape?, hr2.out]
  have hfz := fr_of hr2.out
  go_wp2_with fail
  (try simp only [Exit.inBlock, Exit.then])
  refine bodyPost_ret (results_cell_tmp rfl _ _ w.heap.size 74 #[.bool false, .string ⟨#[]⟩, .slice none 0 0] (0, 0) _ rfl (set3 hr2.out) Tryz.underlying74 rfl (by kernel_rfl) _ rfl) rfl ?_
  refine ⟨.mk false [] [], _, _, _, false, r, rfl, FK.text _ _ ⟨#[]⟩, ?_, hsp.out, tch_set3 ht2H.out (Nat.le_refl _) _ _ _⟩
  unfold RdAt
  rw [set3_ne (fun e => hne.out e.symm)]
  exact hg2H.out
 | true =>
  obtain ⟨hn0, hnr, _⟩ := hl2.2.1 rfl
  obtain ⟨m, rfl⟩ : ∃ m : Nat, n = (m : Int) := ⟨n.toNat, by omega⟩
  have hmr : m <= r.size := by rw [toList_size] at hnr; omega
  have hmri : (m : Int) <= (r.size : Int) := by omega
  have hsp := lh (item_text (deep := deep) h0.out (by rw [toList_size]; exact hs.out) hl2 rfl)
  rw [show ((m : Int)).toNat = m from by omega] at hsp
  clear hl2 hn0 hnr
  go_wp2_with fail
  refine (text_c _ w2).mono ?_
  rintro ev w3 ⟨rfl, hb3⟩
  unfold vtext
  have ht3 := lh (ht2H.out.trans (Tch.of_new (S := fun k => k = g) hb3))
  have hr3 := (hb3.block _ (heap_lt hr2.out)).trans hr2.out
  have hg3 : RdAt w3 g r := (hb3.block _ (heap_lt hg2H.out)).trans hg2H.out
  obtain ⟨w4, hw4⟩ : ∃ w4, w4 = w3.alloc (.cells #[.bool false, .string (r.extract 0 m), .slice none 0 0] 74) := ⟨_, rfl⟩
  have hx4 : w4.heap[w3.heap.size]? = some (.cells #[.bool false, .string (r.extract 0 m), .slice none 0 0] 74 (0, 0)) := by rw [hw4]; exact heap_alloc_at _ _
  have hr4 := lh (show w4.heap[w.heap.size]? = some (.cells #[.bool false, .string ⟨#[]⟩, .slice none 0 0] 74 (0, 0)) from by rw [hw4, heap_alloc_lt _ _ _ (heap_lt hr3)]; exact hr3)
  have hg4 := lh (show RdAt w4 g r by unfold RdAt; rw [hw4, heap_alloc_lt _ _ _ (heap_lt hg3)]; exact hg3)
  have ht4 := lh (show Tch (fun k => k = g) w w4 by rw [hw4]; exact ht3.out.alloc _)
  have j0 : w4.cell? ⟨w3.heap.size, 0, none⟩ = some (.bool false) := by rw [cell_of hx4]; rfl
  have j1 : w4.cell? ⟨w3.heap.size, 1, none⟩ = some (.string (r.extract 0 m)) := by rw [cell_of hx4]; rfl
  have j2 : w4.cell? ⟨w3.heap.size, 2, none⟩ = some (.slice none 0 0) := by rw [cell_of hx4]; rfl
  have k0 : w4.cell? ⟨w.heap.size, 0, none⟩ = some (.bool false) := by rw [cell_of hr4.out]; rfl
  have k1 : w4.cell? ⟨w.heap.size, 1, none⟩ = some (.string ⟨#[]⟩) := by rw [cell_of hr4.out]; rfl
  have k2 : w4.cell? ⟨w.heap.size, 2, none⟩ = some (.slice none 0 0) := by rw [cell_of hr4.out]; rfl
  have hsh : w4.shape? w.heap.size = some (74, 3) := by simp [World.shape?, hr4.out]
  have hfz := fr_of hr4.out
  have hc4 : w4.cell? ⟨g, 0, none⟩ = some (.string r) := by rw [cell_of hg4.out]; rfl
  have hf4 : w4.frozen? ⟨g, 0, none⟩ = false := fr_of hg4.out 0
  have hq := heap_lt hg3
  have hq2 := heap_lt hr3
  have hn1 : ¬ g = w3.heap.size := by omega
  have hn2 : ¬ w3.heap.size = g := by omega
  have hn3 : ¬ w.heap.size = w3.heap.size := by omega
  have hn4 : ¬ w3.heap.size = w.heap.size := by omega
  have hn5 : ¬ w.heap.size = g := hne.out
  have hn6 : ¬ g = w.heap.size := fun e => hne.out e.symm
  clear hr3 hg3 hb3 hx4
  go_upto_region 16 with fail
  rw [<- hw4]
  replace hw4 := lh hw4
  go_wp2_with fail
  (try simp only [Exit.inBlock, Exit.then])
  have hr5 : (w4.setCell ⟨g, 0, none⟩ (.string (r.extract m r.size))).heap[w.heap.size]? = some (.cells #[.bool false, .string ⟨#[]⟩, .slice none 0 0] 74 (0, 0)) := by
   rw [heap_set_ne _ _ _ _ hn5]; exact hr4.out
  refine bodyPost_ret (results_cell_tmp rfl _ _ w.heap.size 74 #[.bool false, .string (r.extract 0 m), .slice none 0 0] (0, 0) _ rfl (set3 hr5) Tryz.underlying74 rfl (by kernel_rfl) _ rfl) rfl ?_
  have e1 : (r.extract 0 m).data.toList = r.data.toList.take m := by rw [Lib.extract_data]; simp
  refine ⟨txt (r.data.toList.take m), _, _, _, true, r.extract m r.size, rfl, by rw [<- e1]; exact FK.text _ _ _, ?_, by rw [extract_toList]; exact hsp.out, tch_set3 (ht4.out.setCell ⟨g, 0, none⟩ (fun _ => rfl) _) (Nat.le_refl _) _ _ _⟩
  unfold RdAt
  rw [set3_ne (fun e => hne.out e.symm)]
  exact rdAt_set hg4.out _
end Go.Proofs.YtbiioaggilaebaaGreatDoor.Tm
namespace Go.Proofs.YtbiioaggilaebaaGreatDoor.Pbottom
open Go.RowKit YtbiioaggilaebaaGreatDoorW.PrintWords YtbiioaggilaebaaGreatDoorW.PrintLast YtbiioaggilaebaaGreatDoorW.PrintMore
attribute [local go_sem] max2_int min2_int max_two min_two max_three min_three max_four min_four   -- for this text's walks alone
def errW : Option Int -> Value
 | none => .nilIface
 | some c => .iface 0 (.int .i64 c)
theorem errW_none : errW none = .nilIface := rfl
theorem errW_some (c : Int) : errW (some c) = .iface 0 (.int .i64 c) := rfl
end Go.Proofs.YtbiioaggilaebaaGreatDoor.Pbottom
namespace Go.Proofs.YtbiioaggilaebaaGreatDoor.Ptop
open Go.RowKit YtbiioaggilaebaaGreatDoorW.PrintWords YtbiioaggilaebaaGreatDoorW.PrintLast YtbiioaggilaebaaGreatDoorW.PrintMore
attribute [local go_sem] max2_int min2_int max_two min_two max_three min_three max_four min_four   -- for this text's walks alone
def errW : Option Int -> Value
 | none => .nilIface
 | some c => .iface 0 (.int .i64 c)
theorem errW_none : errW none = .nilIface := rfl
theorem errW_some (c : Int) : errW (some c) = .iface 0 (.int .i64 c) := rfl
end Go.Proofs.YtbiioaggilaebaaGreatDoor.Ptop
namespace Go.Proofs.YtbiioaggilaebaaGreatDoor.Pop
open Go.RowKit YtbiioaggilaebaaGreatDoorW.PrintWords YtbiioaggilaebaaGreatDoorW.PrintLast YtbiioaggilaebaaGreatDoorW.PrintMore
attribute [local go_sem] max2_int min2_int max_two min_two max_three min_three max_four min_four   -- for this text's walks alone
end Go.Proofs.YtbiioaggilaebaaGreatDoor.Pop
namespace Go.Proofs.YtbiioaggilaebaaGreatDoor.Ref
open Go.RowKit B Sha
def RowB (w : World) (base : Nat) (v : Value) (n : Nat) (l : List UInt8) : Prop := ∃ g cap cells fz, v = .slice (some ⟨g, 0, none⟩) n cap /\ l.length = n /\ base <= g /\ w.heap[g]? = some (.cells cells 5 fz) /\ cells.size = cap /\ n <= cap /\ cap <= maxLen /\
 cells.toList.take n = bc l /\ (fz = (0, 0) \/ cap <= fz.1)
theorem RowB.cells {w : World} {base : Nat} {n g cap : Nat} {l : List UInt8} (h : RowB w base (.slice (some ⟨g, 0, none⟩) n cap) n l) : ∀ k, k < n -> w.cell? ⟨g, k, none⟩ = some (.int .u8 ((l.getD k 0).toNat : Int)) := by
 obtain ⟨g', cap', cells, fz, hv, hl, _, hg, _, _, _, ht, _⟩ := h
 injection hv with e1 e2 e3
 injection e1 with e1
 injection e1 with e1
 subst e1
 intro k hk
 rw [cell_of hg, <- Array.getElem?_toList, <- show (cells.toList.take n)[k]? = cells.toList[k]? from by rw [List.getElem?_take, if_pos hk], ht, bc_get _ _ (by omega), List.getD_eq_getElem?_getD, List.getElem?_eq_getElem (by omega)]
 rfl
theorem RowB.keep {w w' : World} {base n : Nat} {v : Value} {l : List UInt8} (h : RowB w base v n l) (ht : Tch (fun _ => False) w w') : RowB w' base v n l := by
 obtain ⟨g, cap, cells, fz, a, b, c, d, e⟩ := h
 exact ⟨g, cap, cells, fz, a, b, c, ht.heap d (fun e => e), e⟩
theorem rowB_append (ty : TypeId) (w : World) (base : Nat) (v : Value) (n : Nat) (l : List UInt8) (b : UInt8) (h : RowB w base v n l) (ad : Addr) (c : Nat) (hc : w.cell? ad = some (.int .u8 (b.toNat : Int))) (hl : n + 1 <= 140737488355328) (hb : base <= w.heap.size) :
 ∃ g cap w', (Builtin.append_ #[69, 69] ty #[v, .slice (some ad) 1 c]).run Tryz.prog w = .ok (.slice (some ⟨g, 0, none⟩) (n + 1) cap) w' /\ RowB w' base (.slice (some ⟨g, 0, none⟩) (n + 1) cap) (n + 1) (l ++ [b]) /\ Below base w w' := by
 obtain ⟨g, cap, cells, fz, rfl, hll, hbg, hg, hcs, hnc, hcm, ht, hfz⟩ := h
 obtain ⟨i8, hi8, hz8, hs8, hb8⟩ := info8
 have hadd : ad.add 0 = ad := by unfold Addr.add; split <;> simp_all
 have hnews : ∀ j u, ([Value.int .u8 (b.toNat : Int)] : List Value)[j]? = some u -> w.cell? (ad.add j) = some u := by
  intro j u hj
  match j, hj with
  | 0, hj => rw [hadd, hc]; simpa using hj
 by_cases hroom : n + 1 <= cap
 . have hr := run_append_room_cells (P := Tryz.prog) w 69 ty 5 i8 Tryz.underlying69 hi8 g 0 n cap ad 1 c [.int .u8 (b.toNat : Int)] (by simp [hs8]) hnews (by simp [Value.oneCell']) hroom
    (by intro j hj; obtain rfl : j = 0 := by simpa using hj
        rw [cell_of hg, hs8, Array.getElem?_eq_getElem (by omega)]; rfl)
    (by intro j hj; obtain rfl : j = 0 := by simpa using hj
        unfold World.frozen?; rw [hg, hs8]
        rcases hfz with rfl | hfz
        . simp
        . simp; omega)
   refine ⟨g, cap, _, hr, ?_, ?_⟩
   . rw [hs8, show 0 + n * 1 = n from by omega]
     refine ⟨g, cap, cells.setIfInBounds n (.int .u8 (b.toNat : Int)), fz, rfl, by simp [hll], hbg, ?_, by simp [hcs], hroom, hcm, ?_, hfz⟩
     . exact heap_set_some hg n _
     . rw [bc_append, <- ht, Array.toList_setIfInBounds, List.take_add_one, List.take_set_of_le (Nat.le_refl _), List.getElem?_set_self (by rw [Array.length_toList]; omega)]
       rfl
   . rw [hs8]; exact (Below.refl _ _).setCell hbg _
 . have holds : ∀ j u, (bc l)[j]? = some u -> w.cell? ((⟨g, 0, none⟩ : Addr).add j) = some u := by
    intro j u hj
    have hjn : j < n := by
     have := (List.getElem?_eq_some_iff.1 hj).1
     rw [bc_length] at this; omega
    rw [add0, cell_of hg, <- Array.getElem?_toList, <- show (cells.toList.take n)[j]? = cells.toList[j]? from by rw [List.getElem?_take, if_pos hjn], ht, hj]
   obtain ⟨v', w', hr, ho, hgr⟩ := run_append_arg_grows (P := Tryz.prog) w 69 ty 5 i8 _ 1 1 Tryz.underlying69 hi8 hz8 hs8 hb8 rfl (by omega) ⟨g, 0, none⟩ n cap (bc l) (by rw [bc_length]; omega) holds ad 1 c [.int .u8 (b.toNat : Int)] rfl hnews (by omega) (by unfold maxLen; omega) (by omega)
   obtain ⟨_, h0 | ⟨g', cap', cur, rfl, hbg', hg', hnc', hcm', hcs', ht'⟩⟩ := ho
   . exact absurd h0.2 (by omega)
   . refine ⟨g', cap', w', hr, ⟨g', cap', cur, (0, 0), rfl, by simp [hll], by omega, hg', by omega, hnc', hcm', ?_, .inl rfl⟩, ?_⟩
     . rw [bc_append]; rw [Nat.mul_one] at ht'; exact ht'
     . exact ⟨hgr.os, hgr.tape, hgr.output, hgr.size, fun k hk => hgr.block k (by omega) (by simp)⟩
theorem wpList_rowB {ops : Array Oper} {rest : List Oper} {o : Oper} {a : Act} {w : World} {Q : Exit -> Act -> World -> Prop} (hgd : o.guard = none) (s x : Operand)
 (ho : o.op = .call { callee := .builtin .append, args := #[s, x], argTypes := #[69, 69] })
 (base : Nat) (v : Value) (n : Nat) (l : List UInt8) (b : UInt8) (hs : a.eval s = v) (h : RowB w base v n l) (ad : Addr) (c : Nat) (hx : a.eval x = .slice (some ad) 1 c)
 (hc : w.cell? ad = some (.int .u8 (b.toNat : Int))) (hl : n + 1 <= 140737488355328) (hb : base <= w.heap.size)
 (hk : ∀ g cap w', RowB w' base (.slice (some ⟨g, 0, none⟩) (n + 1) cap) (n + 1) (l ++ [b]) -> Below base w w' -> wpList Tryz.prog ops Q rest (a.put o.dst (.slice (some ⟨g, 0, none⟩) (n + 1) cap)) w') : wpList Tryz.prog ops Q (o :: rest) a w := by
 refine wpList_plain hgd fun K hK => ?_
 obtain ⟨g, cap, w', hr, h2, h3⟩ := rowB_append o.type w base v n l b h ad c hc hl hb
 unfold Oper.wp execOp
 simp only [ho, resolve, invoke, builtin, Sem.run_bind, Sem.run_pure, Result.andThen_ok, List.map_toArray, List.map_cons, List.map_nil, hs, hx, hr]
 exact hK _ _ (hk g cap w' h2 h3)
end Go.Proofs.YtbiioaggilaebaaGreatDoor.Ref
namespace Go.Proofs.YtbiioaggilaebaaGreatDoor.Tm
open Go Go.RowKit B Bld
def Errs (w : World) : Prop := (∃ ev, w.cell? ⟨3, 0, none⟩ = some ev /\ (ev = .nilIface \/ ∃ te pe, ev = .iface te pe)) /\ ∃ ev, w.cell? ⟨4, 0, none⟩ = some ev /\ (ev = .nilIface \/ ∃ te pe, ev = .iface te pe)
theorem Errs.below {w w' : World} (h : Errs w) (hb : Below w.heap.size w w') : Errs w' := by
 obtain ⟨⟨e1, h1, k1⟩, e2, h2, k2⟩ := h
 exact ⟨⟨e1, (hb.cell (World.block_lt_of_cell? w _ h1)).trans h1, k1⟩, e2, (hb.cell (World.block_lt_of_cell? w _ h2)).trans h2, k2⟩
theorem below_bytes (w : World) (e : TypeId) (s : ByteArray) : Below w.heap.size w (Lib.bytesWorld w e s) := by
 unfold Lib.bytesWorld
 have h : Below w.heap.size w (w.drew.alloc (.cells (Lib.bytesCells w e s) e)) := ((Below.refl w.heap.size w).drew).alloc (Nat.le_refl _) _
 refine ⟨h.os, h.tape, h.output, ?_, fun k hk => ?_⟩
 . simp [World.freeze]
 . rw [<- h.block k hk]
   simp [World.freeze, Array.getElem?_modify]
   intro e; omega
def AtoiPost (s : ByteArray) (w : World) (ev : Ending) (w' : World) : Prop :=
 ∃ x er, ev = .returned (.tuple #[.int .i64 x, er]) /\ (er = .nilIface \/ ∃ N, er = .iface 241 (.pointer (some ⟨N, 0, none⟩))) /\ (-9223372036854775808 <= x /\ x <= 9223372036854775807) /\
  (∀ n, -9223372036854775808 <= n -> n <= 9223372036854775807 -> s.data.toList = Lib.itoa n -> er = .nilIface /\ x = n) /\ Below w.heap.size w w'
theorem atoi_any (s : ByteArray) (hs : s.size <= 140737488355328) (w : World) (he : Errs w) : Calls Tryz.prog 134 #[.string s] w (AtoiPost s w) := by
 obtain ⟨⟨e1, h1, k1⟩, e2, h2, k2⟩ := he
 rcases h : Lib.atoiAll s.data.toList with v | _ | _
 . refine (Tryz.strconv_Atoi_ok s (by omega) v h w).mono ?_
   rintro ev w' ⟨rfl, hw⟩
   refine ⟨v, _, rfl, .inl rfl, Lib.atoiAll_bounds h, fun n n0 n1 hn => ⟨rfl, ?_⟩, ?_⟩
   . rw [hn, atoi_itoa n n0 n1] at h
     injection h with h
     exact h.symm
   . rcases hw with rfl | ⟨t, rfl⟩
     . exact Below.refl _ _
     . exact below_bytes _ _ _
 . refine (Any.strconv_Atoi_syntax Tryz.laysC172 s (by omega) h e1 w h1 k1).mono ?_
   rintro ev w' ⟨N, rfl, _, _, hb⟩
   refine ⟨_, _, rfl, .inr ⟨N, rfl⟩, by omega, fun n n0 n1 hn => ?_, hb⟩
   rw [hn, atoi_itoa n n0 n1] at h
   cases h
 . refine (Tryz.strconv_Atoi_range s (by omega) h e2 w h2 k2).mono ?_
   rintro ev w' ⟨N, rfl, _, _, hb⟩
   refine ⟨_, _, rfl, .inr ⟨N, rfl⟩, atoiSat_bounds _, fun n n0 n1 hn => ?_, hb⟩
   rw [hn, atoi_itoa n n0 n1] at h
   cases h
theorem itoa_int (n : Int) (h0 : -9223372036854775808 <= n) (h1 : n <= 9223372036854775807) (w : World) (h : Tab w) :
 Calls Tryz.prog 77 #[.int .i64 n] w fun e w' => e = .returned (.string ⟨(Lib.itoa n).toArray⟩) /\ Below w.heap.size w w' := by
 refine (Tryz.strconv_Itoa n h0 h1 w h).mono ?_
 rintro e w' ⟨rfl, k, os, rfl⟩
 exact ⟨rfl, grow_below w k os⟩
def errno (n : Int) : Value := .iface 54 (.int .i64 n)
def NumPost (fb : Bool) (t : ByteArray) (nl : Nat) (least most : Int) (w : World) (ev : Ending) (w' : World) : Prop :=
 ∃ x er, ev = .returned (.tuple #[.int .i64 x, er]) /\ (er = .nilIface \/ er = errno 5) /\ (er = .nilIface -> least <= x /\ x <= most) /\
  (∀ n, least <= n -> n <= most -> fb = false -> nl = 0 -> t.data.toList = Lib.itoa n -> er = .nilIface /\ x = n) /\ Below w.heap.size w w'
def NumBad (er : Value) (fb : Bool) (nl : Nat) (x : Int) (t : ByteArray) (least most : Int) (bad : Bool) : Prop :=
 (bad = false -> er = .nilIface /\ least <= x /\ x <= most) /\ (er = .nilIface -> fb = false -> nl = 0 -> t.data.toList = Lib.itoa x -> least <= x -> x <= most -> bad = false)
theorem number_c (fb : Bool) (t : ByteArray) (A : Option Addr) (nl c : Nat) (least most : Int) (hlo : -9223372036854775808 <= least) (hmo : most <= 9223372036854775807) (ht : t.size <= 140737488355328) (hnl : nl <= 140737488355328) (w : World) (he : Errs w) (htab : Tab w) :
 Calls Tryz.prog 94 #[.agg #[.bool fb, .string t, .slice A nl c], .int .i64 least, .int .i64 most] w (NumPost fb t nl least most w) := by
 obtain ⟨w0, hw0⟩ : ∃ w0, w0 = w.alloc (.cells #[.bool fb, .string t, .slice A nl c] 74) := ⟨_, rfl⟩
 have hb0 : Below w.heap.size w w0 := by rw [hw0]; exact (Below.refl _ _).alloc (Nat.le_refl _) _
 have hx0 : w0.heap[w.heap.size]? = some (.cells #[.bool fb, .string t, .slice A nl c] 74 (0, 0)) := by rw [hw0]; exact heap_alloc_at _ _
 have hc0 : w0.cell? ⟨w.heap.size, 1, none⟩ = some (.string t) := by rw [cell_of hx0]; rfl
 have CA := lh (atoi_any t ht w0 (he.below hb0))
 replace hx0 := lh hx0
 replace hb0 := lh hb0
 replace htab := lh htab
 clear he
 go_enter Tryz.func94, Tryz.ntmps94
 go_upto_region 1 with fail
 rw [<- hw0]
 replace hw0 := lh hw0
 go_wp2_with fail
 refine (CA.out).mono ?_
 rintro ev w1 ⟨x, er, rfl, her, hx, hsp, hb1⟩
 have hx1 := (hb1.block _ (heap_lt hx0.out)).trans hx0.out
 have k0 := Lat.cell (show w1.cell? ⟨w.heap.size, 0, none⟩ = some (.bool fb) by rw [cell_of hx1]; rfl)
 have k1 := Lat.cell (show w1.cell? ⟨w.heap.size, 1, none⟩ = some (.string t) by rw [cell_of hx1]; rfl)
 have k2 := Lat.cell (show w1.cell? ⟨w.heap.size, 2, none⟩ = some (.slice A nl c) by rw [cell_of hx1]; rfl)
 go_upto_region 2 with fail
 have htab1 := lh ((htab.out.below hb0.out (Nat.le_refl _)).below hb1 (Nat.le_refl _))
 have CI := fun (y : Lat w1) => lh (itoa_int x hx.1 hx.2 y.val (htab1.out.below y.below (Nat.le_refl _)))
 have hspH := lh hsp
 have hb1H := lh hb1
 have hxH := lh hx
 clear hsp hb1 hx1 hx
 go_cut [44] (fun v wc => ∃ bad, v = .bool bad /\ NumBad er fb nl x t least most bad /\ Below w1.heap.size w1 wc)
 case first =>
  rcases her with rfl | ⟨N, rfl⟩
  . cases fb with
    | true =>
     refine wp_region_lat (by kernel_rfl) (by kernel_rfl) ?_
     repeat (go_big_quiet_step ((go_at_call 77; exact lat_of (CI _).out)))
     refine wpQuiet_nil ?_
     intro _ hw'
     obtain ⟨xl, hw''⟩ := hw'
     subst hw''
     go_wp2_with fail
     go_meet
     case rel => exact ⟨_, rfl, ⟨fun h => (by cases h), fun h1 h2 h3 h4 h5 h6 => (by cases h2)⟩, xl.below⟩
    | false =>
     by_cases hn0 : nl = 0
     . subst hn0
       have q0 : ¬ (0 : Int) < ((0 : Nat) : Int) := by omega
       by_cases hit : t.data.toList = Lib.itoa x
       . have q1 : (Lib.itoa x == t.toList) = true := by rw [ByteArray.toList_eq, hit]; simp
         by_cases hl : x < least
         ·
          refine wp_region_lat (by kernel_rfl) (by kernel_rfl) ?_
          repeat (go_big_quiet_step ((go_at_call 77; exact lat_of (CI _).out)))
          refine wpQuiet_nil ?_
          intro _ hw'
          obtain ⟨xl, hw''⟩ := hw'
          subst hw''
          go_wp2_with fail
          go_meet
          case rel => exact ⟨_, rfl, ⟨fun h => (by cases h), fun h1 h2 h3 h4 h5 h6 => (by omega)⟩, xl.below⟩
         . by_cases hm : most < x
           ·
            refine wp_region_lat (by kernel_rfl) (by kernel_rfl) ?_
            repeat (go_big_quiet_step ((go_at_call 77; exact lat_of (CI _).out)))
            refine wpQuiet_nil ?_
            intro _ hw'
            obtain ⟨xl, hw''⟩ := hw'
            subst hw''
            go_wp2_with fail
            go_meet
            case rel => exact ⟨_, rfl, ⟨fun h => (by cases h), fun h1 h2 h3 h4 h5 h6 => (by omega)⟩, xl.below⟩
           ·
            refine wp_region_lat (by kernel_rfl) (by kernel_rfl) ?_
            repeat (go_big_quiet_step ((go_at_call 77; exact lat_of (CI _).out)))
            refine wpQuiet_nil ?_
            intro _ hw'
            obtain ⟨xl, hw''⟩ := hw'
            subst hw''
            go_wp2_with fail
            go_meet
            case rel => exact ⟨_, rfl, ⟨fun _ => ⟨rfl, by omega, by omega⟩, fun h1 h2 h3 h4 h5 h6 => rfl⟩, xl.below⟩
       . have q1 : (Lib.itoa x == t.toList) = false := by
          rw [ByteArray.toList_eq, beq_eq_false_iff_ne]
          exact fun e => hit e.symm
         refine wp_region_lat (by kernel_rfl) (by kernel_rfl) ?_
         repeat (go_big_quiet_step ((go_at_call 77; exact lat_of (CI _).out)))
         refine wpQuiet_nil ?_
         intro _ hw'
         obtain ⟨xl, hw''⟩ := hw'
         subst hw''
         go_wp2_with fail
         go_meet
         case rel => exact ⟨_, rfl, ⟨fun h => (by cases h), fun h1 h2 h3 h4 h5 h6 => (by exact absurd h4 hit)⟩, xl.below⟩
     . have q0 : (0 : Int) < (nl : Int) := by omega
       have q00 : 0 < nl := by omega
       refine wp_region_lat (by kernel_rfl) (by kernel_rfl) ?_
       repeat (go_big_quiet_step ((go_at_call 77; exact lat_of (CI _).out)))
       refine wpQuiet_nil ?_
       intro _ hw'
       obtain ⟨xl, hw''⟩ := hw'
       subst hw''
       go_wp2_with fail
       go_meet
       case rel => exact ⟨_, rfl, ⟨fun h => (by cases h), fun h1 h2 h3 h4 h5 h6 => (by exact absurd h3 hn0)⟩, xl.below⟩
  ·
   refine wp_region_lat (by kernel_rfl) (by kernel_rfl) ?_
   repeat (go_big_quiet_step ((go_at_call 77; exact lat_of (CI _).out)))
   refine wpQuiet_nil ?_
   intro _ hw'
   obtain ⟨xl, hw''⟩ := hw'
   subst hw''
   go_wp2_with fail
   go_meet
   case rel => exact ⟨_, rfl, ⟨fun h => (by cases h), fun h1 h2 h3 h4 h5 h6 => (by cases h1)⟩, xl.below⟩
 case rest =>
  obtain ⟨bad, rfl, hbad, hbw⟩ := hcut
  have hbH := lh (hb0.out.trans ((hb1H.out.mono hb0.out.size).trans (hbw.mono (Nat.le_trans hb0.out.size hb1H.out.size))))
  replace hbad := lh hbad
  have hle := lh hlo
  have hme := lh hmo
  clear hbw hlo hmo
  cases bad with
  | true =>
   go_wp2_with fail
   go_ret2
   refine ⟨0, _, rfl, .inr rfl, fun h => (by cases h), fun n n0 n1 h1 h2 h3 => ?_, hbH.out⟩
   obtain ⟨e1, e2⟩ := hspH.out n (by have := hle.out; omega) (by have := hme.out; omega) h3
   subst e2
   have := hbad.out.2 e1 h1 h2 h3 n0 n1
   cases this
  | false =>
   go_wp2_with fail
   go_ret2
   obtain ⟨e1, e2⟩ := hbad.out.1 rfl
   refine ⟨x, _, rfl, .inl rfl, fun _ => e2, fun n n0 n1 h1 h2 h3 => ⟨rfl, (hspH.out n (by have := hle.out; omega) (by have := hme.out; omega) h3).2⟩, hbH.out⟩
end Go.Proofs.YtbiioaggilaebaaGreatDoor.Tm
