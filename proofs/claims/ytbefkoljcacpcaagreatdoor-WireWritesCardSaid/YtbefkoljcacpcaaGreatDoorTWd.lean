/- What LawWireReads, LawWireWrites, LawWireSpoilt lean on, part d of 15: the texts TmP, Base, Bytes, Bld, Shelf, TmW, TmX, TmZ, WiN, ShaP. -/
import Derived.Lib.ItoaLen
import Derived.WalkKit
import Derived.WalkSpells
import Derived.Below
import Derived.BigQuiet
import Derived.Deep.QuietTactic
import Derived.Deep.Draws
import Derived.BigRegion
import Derived.KernelRfl
import Derived.Lib.Hide
import Derived.Test.YtbefkoljcacpcaaGreatDoorProg
import Derived.Deep.AppendLies
import Derived.Laws.IdiomStrings
import Derived.Laws.BytesArg
import Derived.Lib.Builder
import Derived.Lib.AppendStr
import Derived.Lib.UnsafeStr
import Derived.ChangeAlike
import Derived.Laws.Externs
import Derived.Laws.OwnMore
import Derived.RegionTactic
import Derived.RowKit
import Derived.Shelf.Strings.Builder1
import Derived.Shelf.Strings.Builder2
import Derived.Shelf.Strings.Trim
import Derived.Shelf.Small.Utf8
import Derived.Shelf.Small.Strs
import Derived.Shelf.Strings.BuilderF
import Derived.Shelf.Strings.BuilderK
import Derived.Shelf.Strings.Builder2Cap
import Derived.Shelf.Strconv.Atoi
import Derived.Shelf.Strconv.Itoa0
import Derived.Shelf.Strconv.Itoa1
import Derived.Shelf.LaysM
import Derived.Shelf.Strconv.Itoa2
import Derived.Shelf.Strconv.Itoa3
import Derived.Shelf.Strconv.AtoiErrFast
import Derived.Shelf.Strconv.ParseIntEmpty
import Derived.Shelf.Strconv.AtoiFail
import Derived.Shelf.Strconv.Clone
import Derived.Shelf.Strconv.SyntaxError
import Derived.Shelf.LaysC
import Derived.Shelf.Strconv.ToError
import Derived.Shelf.Strconv.AtoiErr
import Derived.Shelf.Strconv.ErrVar
import Derived.Shelf.Strconv.Lower
import Derived.Shelf.Strconv.ParseUint10
import Derived.Shelf.Strconv.ParseUint10Empty
import Derived.Shelf.Strconv.ParseUint10Any
import Derived.Shelf.Strconv.ParseInt10
import Derived.Shelf.Strconv.AtoiLong
import Derived.Shelf.Strconv.AtoiInnerAll
import Derived.Shelf.Strconv.RangeError
import Derived.Shelf.Strconv.ToErrorRange
import Derived.Shelf.Strconv.AtoiAll
import Derived.Shelf.Strconv.ErrVarAll
import Derived.Shelf.Strconv.ParseUintEmpty
import Derived.Shelf.Strconv.ParseUint10b64
import Derived.Shelf.Strconv.ParseUint10b32
import Derived.Shelf.Strconv.ParseUint10b16
import Derived.Shelf.Strconv.ParseUint10b8
import Derived.Shelf.Strconv.ParseUint10At
import Derived.Shelf.Strconv.ParseInt10At64
import Derived.Shelf.Strconv.ParseInt10At32
import Derived.Shelf.Strconv.ParseInt10At16
import Derived.Shelf.Strconv.ParseInt10At8
import Derived.Shelf.Strconv.ParseInt10All
import Derived.Shelf.Strings.Search1
import Derived.Shelf.Strings.Prefix
import Derived.Shelf.Strings.Runes
import Derived.Shelf.Strings.AsciiSet
import Derived.Shelf.Bits.Mul64
import Derived.Shelf.Strings.Repeat
import Derived.Shelf.Unicode.DecodeSlow
import Derived.Shelf.Strings.BuilderCap
import Derived.Lib.SmallJoins
import Derived.Deep.RegionHeld3
import Derived.Deep.RegionWith
import Derived.Deep.DeepFit
import Derived.Deep.LoopGhost
import Derived.IntWalk
import Derived.Handy
import Derived.Laws.Rows
import Derived.Laws.BitsLemmas
import Derived.Laws.Bits64
import Derived.Laws.BitsAll
import Derived.Laws.BitsAllLaws
set_option linter.unusedVariables false
namespace Go.Proofs.YtbefkoljcacpcaaGreatDoor.Tm
open Go Go.Lib
inductive F where
  | mk (list : Bool) (text : List UInt8) (items : List F)
mutual
def F.right : F → Bool
  | .mk true t l => t.isEmpty && rights l
  | .mk false t l => l.isEmpty
def rights : List F → Bool
  | [] => true
  | f :: l => f.right && rights l
end
mutual
def F.depth : F → Nat
  | .mk true t l => depths l + 1
  | .mk false t l => 0
def depths : List F → Nat
  | [] => 0
  | f :: l => max f.depth (depths l)
end
mutual
def F.bytes : F → List UInt8
  | .mk true t l => 40 :: (bytess l ++ [41])
  | .mk false t l => decDigits t.length ++ 58 :: t
def bytess : List F → List UInt8
  | [] => []
  | f :: l => f.bytes ++ bytess l
end
def txt (t : List UInt8) : F := .mk false t []
def lst (l : List F) : F := .mk true [] l
theorem dec_digit (n : Nat) : ∀ c ∈ decDigits n, 48 ≤ c.toNat ∧ c.toNat ≤ 57 := by
  induction n using Nat.strongRecOn with
  | _ n ih =>
    intro c hc
    rw [decDigits] at hc
    split at hc
    · simp only [List.mem_singleton] at hc
      subst hc
      rw [UInt8.toNat_ofNat']
      omega
    · rcases List.mem_append.1 hc with hc | hc
      · exact ih (n / 10) (by omega) c hc
      · simp only [List.mem_singleton] at hc
        subst hc
        rw [UInt8.toNat_ofNat']
        omega
theorem dec_ne (n : Nat) : decDigits n ≠ [] := by
  rw [decDigits]
  split <;> simp
def val (l : List UInt8) : Nat := l.foldl (fun a c => 10 * a + (c.toNat - 48)) 0
theorem val_snoc (l : List UInt8) (c : UInt8) : val (l ++ [c]) = 10 * val l + (c.toNat - 48) := by simp [val, List.foldl_append]
theorem val_dec (n : Nat) : val (decDigits n) = n := by
  induction n using Nat.strongRecOn with
  | _ n ih =>
    rw [decDigits]
    split
    · show 10 * 0 + _ = _
      rw [UInt8.toNat_ofNat']
      omega
    · rw [val_snoc, ih (n / 10) (by omega), UInt8.toNat_ofNat']
      omega
theorem dec_inj {n m : Nat} (h : decDigits n = decDigits m) : n = m := by rw [← val_dec n, h, val_dec]
theorem cut58 : ∀ {a b x y : List UInt8}, (∀ c ∈ a, c ≠ 58) → (∀ c ∈ b, c ≠ 58) → a ++ 58 :: x = b ++ 58 :: y → a = b ∧ x = y
  | [], [], _, _, _, _, h => ⟨rfl, by injection h⟩
  | [], c :: b, _, _, _, hb, h => by
    simp only [List.nil_append, List.cons_append, List.cons.injEq] at h
    exact absurd h.1.symm (hb c (by simp))
  | c :: a, [], _, _, ha, _, h => by
    simp only [List.nil_append, List.cons_append, List.cons.injEq] at h
    exact absurd h.1 (ha c (by simp))
  | c :: a, d :: b, x, y, ha, hb, h => by
    simp only [List.cons_append, List.cons.injEq] at h
    obtain ⟨e1, e2⟩ := cut58 (fun z hz => ha z (by simp [hz])) (fun z hz => hb z (by simp [hz])) h.2
    exact ⟨by rw [h.1, e1], e2⟩
theorem digit_ne58 {c : UInt8} (h : 48 ≤ c.toNat ∧ c.toNat ≤ 57) : c ≠ 58 := by rintro rfl; simp at h
theorem app_len {a b x y : List UInt8} (hl : a.length = b.length) (h : a ++ x = b ++ y) : a = b ∧ x = y := List.append_inj h hl
theorem text_head (t : List UInt8) : ∃ c r, (F.mk false t []).bytes = c :: r ∧ 48 ≤ c.toNat ∧ c.toNat ≤ 57 := by
  unfold F.bytes
  obtain ⟨c, r, h⟩ := List.exists_cons_of_ne_nil (dec_ne t.length)
  rw [h]
  exact ⟨c, _, rfl, dec_digit t.length c (by rw [h]; simp)⟩
theorem form_head (f : F) (h : f.right = true) : ∃ c r, f.bytes = c :: r ∧ (c = 40 ∨ 48 ≤ c.toNat ∧ c.toNat ≤ 57) := by
  match f, h with
  | .mk true t l, _ => exact ⟨40, _, by rw [F.bytes], .inl rfl⟩
  | .mk false t l, h =>
    unfold F.right at h
    have : l = [] := by simpa using h
    subst this
    obtain ⟨c, r, h1, h2⟩ := text_head t
    exact ⟨c, r, h1, .inr h2⟩
mutual
theorem F.uniq : ∀ (f g : F) (r r' : List UInt8), f.right = true → g.right = true → f.bytes ++ r = g.bytes ++ r' → f = g ∧ r = r'
  | .mk true t l, .mk true t' l', r, r', hf, hg, h => by
    unfold F.right at hf hg
    simp only [Bool.and_eq_true] at hf hg
    have ht : t = [] := by simpa using hf.1
    have ht' : t' = [] := by simpa using hg.1
    subst ht ht'
    unfold F.bytes at h
    simp only [List.cons_append, List.append_assoc, List.cons.injEq, true_and, List.nil_append] at h
    obtain ⟨e1, e2⟩ := uniqs l l' r r' hf.2 hg.2 h
    exact ⟨by rw [e1], e2⟩
  | .mk true t l, .mk false t' l', r, r', hf, hg, h => by
    unfold F.right at hg
    have : l' = [] := by simpa using hg
    subst this
    obtain ⟨c, x, h1, h2⟩ := text_head t'
    rw [h1, F.bytes] at h
    simp only [List.cons_append, List.cons.injEq] at h
    rw [← h.1] at h2
    simp at h2
  | .mk false t l, .mk true t' l', r, r', hf, hg, h => by
    unfold F.right at hf
    have : l = [] := by simpa using hf
    subst this
    obtain ⟨c, x, h1, h2⟩ := text_head t
    rw [h1, F.bytes] at h
    simp only [List.cons_append, List.cons.injEq] at h
    rw [h.1] at h2
    simp at h2
  | .mk false t l, .mk false t' l', r, r', hf, hg, h => by
    unfold F.right at hf hg
    have e1 : l = [] := by simpa using hf
    have e2 : l' = [] := by simpa using hg
    subst e1 e2
    unfold F.bytes at h
    simp only [List.append_assoc, List.cons_append] at h
    obtain ⟨h1, h2⟩ := cut58 (fun c hc => digit_ne58 (dec_digit _ c hc)) (fun c hc => digit_ne58 (dec_digit _ c hc)) h
    obtain ⟨h3, h4⟩ := app_len (dec_inj h1) h2
    exact ⟨by rw [h3], h4⟩
theorem uniqs : ∀ (l l' : List F) (r r' : List UInt8), rights l = true → rights l' = true → bytess l ++ 41 :: r = bytess l' ++ 41 :: r' → l = l' ∧ r = r'
  | [], [], r, r', _, _, h => ⟨rfl, by simpa [bytess] using h⟩
  | [], g :: l', r, r', _, hg, h => by
    unfold rights at hg
    simp only [Bool.and_eq_true] at hg
    obtain ⟨c, x, h1, h2⟩ := form_head g hg.1
    rw [bytess, bytess, h1] at h
    simp only [List.nil_append, List.cons_append, List.cons.injEq] at h
    rw [← h.1] at h2
    simp at h2
  | f :: l, [], r, r', hf, _, h => by
    unfold rights at hf
    simp only [Bool.and_eq_true] at hf
    obtain ⟨c, x, h1, h2⟩ := form_head f hf.1
    rw [bytess, bytess, h1] at h
    simp only [List.nil_append, List.cons_append, List.cons.injEq] at h
    rw [h.1] at h2
    simp at h2
  | f :: l, g :: l', r, r', hf, hg, h => by
    unfold rights at hf hg
    simp only [Bool.and_eq_true] at hf hg
    rw [bytess, bytess, List.append_assoc, List.append_assoc] at h
    obtain ⟨e1, e2⟩ := F.uniq f g _ _ hf.1 hg.1 h
    obtain ⟨e3, e4⟩ := uniqs l l' r r' hf.2 hg.2 e2
    exact ⟨by rw [e1, e3], e4⟩
end
end Go.Proofs.YtbefkoljcacpcaaGreatDoor.Tm
set_option linter.unusedVariables false
set_option linter.unusedSimpArgs false
namespace Go.Proofs.YtbefkoljcacpcaaGreatDoor.B
open Go.RowKit
structure Tch (S : Nat → Prop) (w w' : World) : Prop where
  os : w'.os = w.os
  tape : w'.tape = w.tape
  output : w'.output = w.output
  size : w.heap.size ≤ w'.heap.size
  block : ∀ k, k < w.heap.size → ¬ S k → w'.heap[k]? = w.heap[k]?
theorem heap_set (w : World) (b off : Nat) (v : Value) (cs : Array Value) (t : TypeId) (fz : Nat × Nat) (h : w.heap[b]? = some (.cells cs t fz)) :
    (w.setCell ⟨b, off, none⟩ v).heap[b]? = some (.cells (cs.setIfInBounds off v) t fz) := by
  simp [World.setCell, Array.getElem?_modify, h]
theorem heap_set_ne (w : World) (a : Addr) (v : Value) (k : Nat) (h : k ≠ a.block) : (w.setCell a v).heap[k]? = w.heap[k]? := Below.heap_setCell w a v k h
theorem heap_alloc_lt (w : World) (o : Obj) (k : Nat) (h : k < w.heap.size) : (w.alloc o).heap[k]? = w.heap[k]? := Below.heap_alloc w o k h
theorem heap_alloc_at (w : World) (o : Obj) : (w.alloc o).heap[w.heap.size]? = some o := by
  show (w.heap.push o)[w.heap.size]? = _
  rw [Array.getElem?_push, if_pos rfl]
theorem heap_lt {w : World} {b : Nat} {o : Obj} (h : w.heap[b]? = some o) : b < w.heap.size := (Array.getElem?_eq_some_iff.1 h).1
theorem size_set (w : World) (a : Addr) (v : Value) : (w.setCell a v).heap.size = w.heap.size := by simp [World.setCell]
theorem cell_of {w : World} {b : Nat} {cs : Array Value} {t : TypeId} {fz : Nat × Nat} (h : w.heap[b]? = some (.cells cs t fz)) (i : Nat) : w.cell? ⟨b, i, none⟩ = cs[i]? := by
  simp [World.cell?, h]
theorem fr_of {w : World} {b : Nat} {cs : Array Value} {t : TypeId} (h : w.heap[b]? = some (.cells cs t (0, 0))) (i : Nat) : w.frozen? ⟨b, i, none⟩ = false := by
  simp [World.frozen?, h]
theorem add0 (g j : Nat) : (⟨g, 0, none⟩ : Addr).add j = ⟨g, j, none⟩ := by unfold Addr.add; split <;> simp_all
theorem heap_set_some {w : World} {b : Nat} {cs : Array Value} {t : TypeId} {fz : Nat × Nat} (h : w.heap[b]? = some (.cells cs t fz)) (off : Nat) (v : Value) :
    (w.setCell ⟨b, off, none⟩ v).heap[b]? = some (.cells (cs.setIfInBounds off v) t fz) := heap_set w b off v cs t fz h
namespace Tch
variable {S S' : Nat → Prop} {w w' w'' : World}
theorem refl (S : Nat → Prop) (w : World) : Tch S w w := ⟨rfl, rfl, rfl, Nat.le_refl _, fun _ _ _ => rfl⟩
theorem trans (h : Tch S w w') (k : Tch S w' w'') : Tch S w w'' :=
  ⟨k.os.trans h.os, k.tape.trans h.tape, k.output.trans h.output, Nat.le_trans h.size k.size, fun i hi hs => (k.block i (Nat.lt_of_lt_of_le hi h.size) hs).trans (h.block i hi hs)⟩
theorem mono (h : Tch S w w') (hs : ∀ k, S k → S' k) : Tch S' w w' := ⟨h.os, h.tape, h.output, h.size, fun i hi hn => h.block i hi fun e => hn (hs i e)⟩
theorem drew (h : Tch S w w') : Tch S w w'.drew := ⟨h.os, h.tape, h.output, h.size, h.block⟩
theorem drewN (h : Tch S w w') (n : Nat) : Tch S w (w'.drewN n) := ⟨h.os, h.tape, h.output, h.size, h.block⟩
theorem alloc (h : Tch S w w') (o : Obj) : Tch S w (w'.alloc o) :=
  h.trans ⟨rfl, rfl, rfl, by simp, fun k hk _ => Below.heap_alloc _ _ _ hk⟩
theorem setCell (h : Tch S w w') (a : Addr) (ha : a.block < w'.heap.size → S a.block) (v : Value) : Tch S w (w'.setCell a v) :=
  h.trans ⟨rfl, rfl, rfl, by simp [World.setCell], fun k hk hs => Below.heap_setCell _ _ _ _ fun e => hs (e ▸ ha (e ▸ hk))⟩
theorem setNew (h : Tch S w w') (a : Addr) (ha : w.heap.size ≤ a.block) (v : Value) : Tch S w (w'.setCell a v) :=
  ⟨h.os, h.tape, h.output, by rw [size_set]; exact h.size, fun k hk hs => (Below.heap_setCell _ _ _ _ (by omega)).trans (h.block k hk hs)⟩
theorem of_below {B : Nat} (h : Below B w w') (hB : ∀ k, B ≤ k → k < w.heap.size → S k) : Tch S w w' :=
  ⟨h.os, h.tape, h.output, h.size, fun k hk hs => h.block k (Nat.lt_of_not_le fun e => hs (hB k e hk))⟩
theorem of_new (h : Below w.heap.size w w') : Tch S w w' := of_below h fun k h1 h2 => absurd h2 (by omega)
theorem below (h : Tch S w w') {B : Nat} (hB : B ≤ w.heap.size) (hs : ∀ k, S k → k < w.heap.size → B ≤ k) : Below B w w' :=
  ⟨h.os, h.tape, h.output, h.size, fun k hk => h.block k (by omega) fun e => absurd (hs k e (by omega)) (by omega)⟩
theorem cell (h : Tch S w w') {p : Addr} {v : Value} (hc : w.cell? p = some v) (hs : ¬ S p.block) : w'.cell? p = some v :=
  (World.cell?_of_block (h.block _ (World.block_lt_of_cell? w p hc) hs)).trans hc
theorem heap (h : Tch S w w') {b : Nat} {o : Obj} (hc : w.heap[b]? = some o) (hs : ¬ S b) : w'.heap[b]? = some o :=
  (h.block _ (heap_lt hc) hs).trans hc
end Tch
end Go.Proofs.YtbefkoljcacpcaaGreatDoor.B
set_option linter.unusedVariables false
namespace Go.Proofs.YtbefkoljcacpcaaGreatDoor.B
open Go.RowKit
def bc (l : List UInt8) : List Value := l.map fun b => .int .u8 (b.toNat : Int)
theorem bc_append (a b : List UInt8) : bc (a ++ b) = bc a ++ bc b := List.map_append ..
theorem bc_length (a : List UInt8) : (bc a).length = a.length := List.length_map ..
theorem bc_get (l : List UInt8) (j : Nat) (h : j < l.length) : (bc l)[j]? = some (.int .u8 (l[j].toNat : Int)) := by
  simp [bc, List.getElem?_eq_getElem h]
theorem info8 : ∃ i, Tryz.prog.info? 5 = some i ∧ i.zero = some (.int .u8 0) ∧ i.size = 1 ∧ i.bytes = 1 := by
  have h : (Tryz.prog.info? 5).map (fun i => (i.zero, i.size, i.bytes)) = some (some (.int .u8 0), 1, 1) := by kernel_rfl
  match hi : Tryz.prog.info? 5, h with
  | some i, h =>
    simp only [Option.map_some, Option.some.injEq, Prod.mk.injEq] at h
    exact ⟨i, rfl, h.1, h.2.1, h.2.2⟩
theorem own_conv (w : World) (base : Nat) (v : Value) (l : List UInt8) (h : w.ownsRow base 5 1 v l.length (bc l)) :
    (convert 30 9 v).run Tryz.prog w = .ok (.string ⟨l.toArray⟩) w := by
  rcases h.2 with ⟨rfl, h0⟩ | ⟨g, cap, cur, rfl, _, hg, _, _, hs, ht⟩
  · obtain rfl : l = [] := List.eq_nil_of_length_eq_zero h0
    exact run_convert_bytes_nil w 30 5 Tryz.underlying30 Tryz.underlying5 0 0 9 Tryz.underlying9
  · refine run_convert_bytes_back w 30 9 5 _ cap l Tryz.underlying30 Tryz.underlying5 Tryz.underlying9 fun j hj => ?_
    rw [add0, cell_of hg, ← bc_get l j hj, ← ht, List.getElem?_take, if_pos (by omega), Array.getElem?_toList]
theorem own_nil (w : World) (base : Nat) : w.ownsRow base 5 1 (.slice none 0 0) 0 (bc []) := ⟨rfl, .inl ⟨rfl, rfl⟩⟩
theorem own_tch {w w' w0 : World} {base n : Nat} {e : TypeId} {size : Nat} {v : Value} {xs : List Value} {S : Nat → Prop} (h : Tch S w0 w) (ho : w.ownsRow base e size v n xs) (hb : w0.heap.size ≤ base) (hg : w.grownBy w' v.ownBlock) : Tch S w0 w' :=
  ⟨hg.os.trans h.os, hg.tape.trans h.tape, hg.output.trans h.output, Nat.le_trans h.size hg.size, fun k hk hs =>
    (hg.block k (Nat.lt_of_lt_of_le hk h.size) (fun e => by have := (ho.lt k e.symm).1; omega)).trans (h.block k hk hs)⟩
theorem own_keep {w w' : World} {base n size : Nat} {e : TypeId} {v : Value} {xs : List Value} (h : w.ownsRow base e size v n xs) (ht : Tch (fun _ => False) w w') : w'.ownsRow base e size v n xs :=
  h.kept (row := none) ⟨ht.os, ht.tape, ht.output, ht.size, fun k hk _ => ht.block k hk (fun e => e)⟩ (by cases v.ownBlock <;> simp)
theorem bytes_of (w : World) (s : ByteArray) : ∃ cap w1 cells fz, (convert 9 30 (.string s)).run Tryz.prog w = .ok (.slice (some ⟨w.heap.size, 0, none⟩) s.size cap) w1 ∧
    Below w.heap.size w w1 ∧ w1.heap.size = w.heap.size + 1 ∧ w1.heap[w.heap.size]? = some (.cells cells 5 fz) ∧ cells.size = cap ∧ s.size ≤ cap ∧
    cells.toList.take s.size = bc s.data.toList ∧ (∀ j, j < cap → w1.frozen? ⟨w.heap.size, j, none⟩ = false) ∧ fz.1 = cap ∧ (s.size ≤ maxLen → cap ≤ maxLen) := by
  have hge := grownCap_ge w s.size 0 5
  refine ⟨_, _, bytesRow s (grownCap w s.size 0 5), ((bytesRow s (grownCap w s.size 0 5)).size, (bytesRow s (grownCap w s.size 0 5)).size + 1), run_bytes_of_string w 9 30 5 s Tryz.underlying9 Tryz.underlying30 Tryz.underlying5, ?_, ?_, ?_, ?_, hge, ?_, ?_, ?_, fun h => grownCap_le_maxLen w s.size 0 _ h⟩
  · exact (⟨rfl, rfl, rfl, Nat.le_refl _, fun _ _ => rfl⟩ : Below w.heap.size w w.drew).alloc (Nat.le_refl _) _
  · simp
  · exact heap_alloc_at w.drew _
  · simp [bytesRow]; have : s.data.size = s.size := rfl; omega
  · simp only [bytesRow, Array.toList_append, Array.toList_map]
    rw [List.take_append_of_le_length (by simp), List.take_of_length_le (by simp)]
    rfl
  · intro j hj
    have := heap_alloc_at w.drew (.cells (bytesRow s (grownCap w s.size 0 5)) 5 ((bytesRow s (grownCap w s.size 0 5)).size, (bytesRow s (grownCap w s.size 0 5)).size + 1))
    have hs : (bytesRow s (grownCap w s.size 0 5)).size = grownCap w s.size 0 5 := by simp [bytesRow]; have : s.data.size = s.size := rfl; omega
    change (w.drew.alloc _).heap[w.heap.size]? = _ at this
    have hf : ∀ (W : World) (fz : Nat × Nat) (C : Array Value) (t : TypeId), W.heap[w.heap.size]? = some (.cells C t fz) → j < fz.1 → W.frozen? ⟨w.heap.size, j, none⟩ = false := by
      intro W fz C t h1 h2
      unfold World.frozen?
      rw [h1]
      simp; omega
    exact hf _ _ _ _ this (by rw [hs]; exact hj)
  · simp [bytesRow]; have : s.data.size = s.size := rfl; omega
end Go.Proofs.YtbefkoljcacpcaaGreatDoor.B
set_option linter.unusedVariables false
set_option linter.unusedSimpArgs false
namespace Go.Proofs.YtbefkoljcacpcaaGreatDoor.Bld
open Go Go.RowKit Go.Proofs.YtbefkoljcacpcaaGreatDoor.B
def WAt (B g : Nat) (l : List UInt8) (e d : Value) (w : World) : Prop :=
  B ≤ g ∧ ∃ p v, (p = .pointer none ∨ p = .pointer (some ⟨g, 0, none⟩)) ∧ w.heap[g]? = some (.cells #[p, v, e, d] 93 (0, 0)) ∧ w.ownsRow B 5 1 v l.length (bc l)
def Oth (g : Nat) (w w' : World) : Prop := ∀ (k : Nat) (cs : Array Value) (ty : TypeId) (fz : Nat × Nat), k ≠ g → ty ≠ 5 → w.heap[k]? = some (.cells cs ty fz) → w'.heap[k]? = some (.cells cs ty fz)
theorem Oth.refl (g : Nat) (w : World) : Oth g w w := fun _ _ _ _ _ _ h => h
theorem Oth.trans {g : Nat} {a b c : World} (h : Oth g a b) (k : Oth g b c) : Oth g a c := fun i cs ty fz h1 h2 h3 => k i cs ty fz h1 h2 (h i cs ty fz h1 h2 h3)
theorem Oth.below {g : Nat} {w w' : World} (h : Below w.heap.size w w') : Oth g w w' := fun k cs ty fz _ _ h3 => (h.block k (heap_lt h3)).trans h3
theorem Oth.alloc (g : Nat) (w : World) (o : Obj) : Oth g w (w.alloc o) := Oth.below ((Below.refl _ _).alloc (Nat.le_refl _) _)
theorem Oth.set (g o : Nat) (w : World) (u : Value) : Oth g w (w.setCell ⟨g, o, none⟩ u) := fun k cs ty fz h1 _ h3 => by
  rw [Below.heap_setCell _ _ _ _ (by simpa using h1)]; exact h3
theorem Oth.grown {g : Nat} {w w' : World} {base size n : Nat} {v : Value} {xs : List Value} (ho : w.ownsRow base 5 size v n xs) (hg : w.grownBy w' v.ownBlock) : Oth g w w' := fun k cs ty fz _ h2 h3 => by
  rw [hg.block k (heap_lt h3) (fun e => ?_)]
  · exact h3
  · rcases ho.2 with ⟨rfl, _⟩ | ⟨r, cap, cur, rfl, hr, hh, _⟩
    · simp [Value.ownBlock] at e
    · have : k = r := by simpa [Value.ownBlock] using e
      subst this
      rw [hh] at h3
      injection h3 with h3
      injection h3 with _ h3 _
      exact h2 h3.symm
theorem own_far {w : World} {base size n g : Nat} {v : Value} {xs : List Value} {cs : Array Value} {fz : Nat × Nat} (ho : w.ownsRow base 5 size v n xs) (hg : w.heap[g]? = some (.cells cs 93 fz)) : v.ownBlock ≠ some g := by
  intro h
  rcases ho.2 with ⟨rfl, _⟩ | ⟨k, cap, cur, rfl, hk, hh, _⟩
  · simp [Value.ownBlock] at h
  · have : k = g := by simpa [Value.ownBlock] using h
    subst this
    rw [hh] at hg
    injection hg with hg
    injection hg with _ hg _
    exact absurd hg (by decide)
theorem own_slice {w : World} {base size n : Nat} {e : TypeId} {v : Value} {xs : List Value} (ho : w.ownsRow base e size v n xs) : ∃ ao n' cap, v = .slice ao n' cap := by
  rcases ho.2 with ⟨hv, _⟩ | ⟨g', cap, cur, hv, _⟩
  · exact ⟨_, _, _, hv⟩
  · exact ⟨_, _, _, hv⟩
theorem after_row {w1 w2 : World} {base n size g : Nat} {p v e d : Value} {xs : List Value} (hg : w1.heap[g]? = some (.cells #[p, v, e, d] 93 (0, 0))) (ho : w1.ownsRow base 5 size v n xs) (hgrow : w1.grownBy w2 v.ownBlock) :
    w2.heap[g]? = some (.cells #[p, v, e, d] 93 (0, 0)) ∧ w2.cell? ⟨g, 1, none⟩ = some v ∧ w2.frozen? ⟨g, 1, none⟩ = false := by
  have h : w2.heap[g]? = some (.cells #[p, v, e, d] 93 (0, 0)) := by
    rw [hgrow.block g (heap_lt hg) (fun e => own_far ho hg e.symm)]
    exact hg
  exact ⟨h, by rw [cell_of h]; rfl, fr_of h 1⟩
theorem after_row1 {w1 w2 : World} {base n size g : Nat} {p v e d : Value} {xs : List Value} {o : Obj} (hg : w1.heap[g]? = some (.cells #[p, v, e, d] 93 (0, 0))) (ho : w1.ownsRow base 5 size v n xs) (hgrow : (w1.alloc o).grownBy w2 v.ownBlock) :
    w2.heap[g]? = some (.cells #[p, v, e, d] 93 (0, 0)) ∧ w2.cell? ⟨g, 1, none⟩ = some v ∧ w2.frozen? ⟨g, 1, none⟩ = false :=
  after_row (by rw [heap_alloc_lt _ _ _ (heap_lt hg)]; exact hg) (ho.alloc _) hgrow
theorem bsize : (Tryz.prog.info? 91).map (·.size) = some 2 := by kernel_rfl
theorem blies : liesAt Tryz.prog Tryz.prog.depth 93 (4 / Tryz.prog.cellsOf 93) 0 91 1 = true := by kernel_rfl
theorem len_any (B g : Nat) (l : List UInt8) (e d : Value) (w : World) (h : WAt B g l e d w) :
    Calls Tryz.prog 41 #[.pointer (some ⟨g, 0, none⟩)] w fun ev w' => ev = .returned (.int .i64 l.length) ∧ w' = w := by
  obtain ⟨hB, p, v, hp, hg, ho⟩ := h
  obtain ⟨A, c, rfl⟩ : ∃ A c, v = .slice A l.length c := by
    rcases ho.2 with ⟨rfl, h0⟩ | ⟨k, cap, cur, rfl, _⟩
    · exact ⟨none, 0, by rw [h0]⟩
    · exact ⟨_, _, rfl⟩
  have c1 : w.cell? ⟨g, 1, none⟩ = some (.slice A l.length c) := by rw [cell_of hg]; rfl
  clear ho hg hp
  go_enter Tryz.func41, Tryz.ntmps41
  go_wp2
  go_ret
  exact ⟨rfl, rfl⟩
set_option maxRecDepth 100000 in
theorem check_used (g : Nat) (w : World) (h0 : w.cell? ⟨g, 0, none⟩ = some (.pointer (some ⟨g, 0, none⟩))) :
    Calls Tryz.prog 77 #[.pointer (some ⟨g, 0, none⟩)] w fun ev w' => ev = .returned (.tuple #[]) ∧ w' = w := by
  obtain ⟨j, hj, _⟩ := Option.map_eq_some_iff.1 bsize
  go_enter Tryz.func77, Tryz.ntmps77
  go_wp2
  rw [Lib.run_neq_ptr_same w _ Tryz.underlying89 hj]
  go_wp2
  go_end0
  exact ⟨rfl, rfl⟩
set_option maxRecDepth 100000 in
set_option maxHeartbeats 1000000 in
theorem check_fresh (g : Nat) (w : World) (h0 : w.cell? ⟨g, 0, none⟩ = some (.pointer none)) (hsh : w.shape? g = some (93, 4)) (hfz : w.frozen? ⟨g, 0, none⟩ = false) :
    Calls Tryz.prog 77 #[.pointer (some ⟨g, 0, none⟩)] w fun ev w' => ev = .returned (.tuple #[]) ∧ w' = w.setCell ⟨g, 0, none⟩ (.pointer (some ⟨g, 0, none⟩)) := by
  obtain ⟨j, hj, hjs⟩ := Option.map_eq_some_iff.1 bsize
  go_enter Tryz.func77, Tryz.ntmps77
  go_wp2
  rw [Lib.run_to_unsafe w ⟨g, 0, none⟩ Tryz.underlying89 Tryz.underlying73 hj (by rw [hjs]; decide) hsh (Nat.zero_lt_succ 3)]
  simp only [Result.andThen]
  rw [Oper.upon_value]
  go_wp2
  rw [run_callFunc_extern Tryz.func94 (by kernel_rfl) (by kernel_rfl) (by kernel_rfl) (e := Extern.AbiNoEscape.same) (by kernel_rfl)]
  rw [Lib.run_noEscape]
  simp only [Result.andThen]
  rw [Oper.upon_value]
  go_wp2
  rw [Lib.run_from_unsafe w ⟨g, 0, none⟩ Tryz.underlying73 Tryz.underlying89 hj hsh blies]
  simp only [Result.andThen]
  rw [Oper.upon_value]
  go_wp2
  go_end0
  exact ⟨rfl, rfl⟩
def WUsed (B g : Nat) (l : List UInt8) (e d : Value) (w : World) : Prop :=
  B ≤ g ∧ ∃ v, w.heap[g]? = some (.cells #[.pointer (some ⟨g, 0, none⟩), v, e, d] 93 (0, 0)) ∧ w.ownsRow B 5 1 v l.length (bc l)
theorem own_set {w : World} {base g n : Nat} {v u : Value} {xs : List Value} {cs : Array Value} {fz : Nat × Nat} {o : Nat} (ho : w.ownsRow base 5 1 v n xs) (hg : w.heap[g]? = some (.cells cs 93 fz)) : (w.setCell ⟨g, o, none⟩ u).ownsRow base 5 1 v n xs :=
  ho.kept (row := some g) ⟨rfl, rfl, rfl, by simp [World.setCell], fun k _ hk => Below.heap_setCell _ _ _ _ (fun e => hk (by simp [e]))⟩ (Or.inr (own_far ho hg))
theorem check_any (B g : Nat) (l : List UInt8) (e d : Value) (w : World) (h : WAt B g l e d w) :
    Calls Tryz.prog 77 #[.pointer (some ⟨g, 0, none⟩)] w fun ev w' => ev = .returned (.tuple #[]) ∧ WUsed B g l e d w' ∧ Below B w w' ∧ Oth g w w' := by
  obtain ⟨hB, p, v, rfl | rfl, hg, ho⟩ := h
  · refine (check_fresh g w (by rw [cell_of hg]; rfl) (by simp [World.shape?, hg]) (fr_of hg 0)).mono ?_
    rintro ev w' ⟨rfl, rfl⟩
    refine ⟨rfl, ⟨hB, v, ?_, own_set ho hg⟩, (Below.refl _ _).setCell (p := ⟨g, 0, none⟩) hB _, Oth.set _ _ _ _⟩
    rw [heap_set_some hg]
    rfl
  · refine (check_used g w (by rw [cell_of hg]; rfl)).mono ?_
    rintro ev w' ⟨rfl, rfl⟩
    exact ⟨rfl, ⟨hB, v, hg, ho⟩, Below.refl _ _, Oth.refl _ _⟩
theorem used_put {B g : Nat} {l : List UInt8} {e d p v v' : Value} {w : World} (hB : B ≤ g) (hp : p = .pointer none ∨ p = .pointer (some ⟨g, 0, none⟩)) (hg : w.heap[g]? = some (.cells #[p, v, e, d] 93 (0, 0))) (ho : w.ownsRow B 5 1 v' l.length (bc l)) :
    WAt B g l e d (w.setCell ⟨g, 1, none⟩ v') := by
  refine ⟨hB, p, v', hp, ?_, own_set ho hg⟩
  rw [heap_set_some hg]
  rfl
set_option maxRecDepth 100000 in
set_option maxHeartbeats 2000000 in
theorem string_any (B g : Nat) (l : List UInt8) (e d : Value) (s : ByteArray) (w : World) (h : WAt B g l e d w) (hlen : l.length + s.size ≤ 140737488355328) (hBw : B ≤ w.heap.size) :
    Calls Tryz.prog 63 #[.pointer (some ⟨g, 0, none⟩), .string s] w fun ev w' => ev = .returned (.tuple #[.int .i64 s.size, .nilIface]) ∧ WAt B g (l ++ s.data.toList) e d w' ∧ Below B w w' ∧ Oth g w w' := by
  obtain ⟨i8, hi8, hz8, hs8, hb8⟩ := info8
  have C := Lib.hid (check_any B g l e d w h)
  clear h
  go_enter Tryz.func63, Tryz.ntmps63
  go_wp2_with fail
  refine (C.out).mono ?_
  rintro ev w1 ⟨rfl, ⟨hB, v, hg, ho⟩, hb1, hoth⟩
  replace hoth := Lib.hid hoth
  have c1 : w1.cell? ⟨g, 1, none⟩ = some v := by rw [cell_of hg]; rfl
  have hoH := Lib.hid ho
  have hgH := Lib.hid hg
  have hb1H := Lib.hid hb1
  clear ho hg hb1 C
  go_wp2_with (at_builtin; refine Lib.wpList_append_own_string _ (by rfl) _ _ 30 9 (by rfl) B 5 i8 Tryz.underlying30 Tryz.underlying9 hi8 hz8 hs8 hb8 _ _ _ (by rfl) hoH.out s (by rfl) (by unfold maxLen; omega) (by omega) (by have := hb1H.out.size; omega) ?_; intro v' w2 hown' hgrow hniff; clear hniff; obtain ⟨ao, n', cap, rfl⟩ := own_slice hown'; obtain ⟨hg2', d1, f1⟩ := after_row hgH.out hoH.out hgrow; have hg2 := Lib.hid hg2'; have hownH := Lib.hid hown'; have hgrowH := Lib.hid hgrow; clear hown' hgrow hg2')
  have hbl := Lib.hid (hb1H.out.grown hgrowH.out (by have := hb1H.out.size; omega) (fun k hk => (hoH.out.lt k hk).1))
  have hln : (l ++ s.data.toList).length = l.length + s.size := by rw [List.length_append, Array.length_toList]; rfl
  have hput := Lib.hid (fun u (hu : w2.ownsRow B 5 1 u (l ++ s.data.toList).length (bc (l ++ s.data.toList))) => used_put (e := e) (d := d) hB (.inr rfl) hg2.out hu)
  rw [hln, bc_append] at hput
  go_ret2
  refine ⟨rfl, hput.out _ hownH.out, hbl.out.setCell (p := ⟨g, 1, none⟩) hB _, (hoth.out.trans (Oth.grown hoH.out hgrowH.out)).trans (Oth.set _ _ _ _)⟩
set_option maxRecDepth 100000 in
set_option maxHeartbeats 2000000 in
theorem byte_any (B g : Nat) (l : List UInt8) (e d : Value) (c : UInt8) (w : World) (h : WAt B g l e d w) (hlen : l.length + 1 ≤ 140737488355328) (hBw : B ≤ w.heap.size) :
    Calls Tryz.prog 64 #[.pointer (some ⟨g, 0, none⟩), .int .u8 (c.toNat : Int)] w fun ev w' => ev = .returned .nilIface ∧ WAt B g (l ++ [c]) e d w' ∧ Below B w w' ∧ Oth g w w' := by
  obtain ⟨i8, hi8, hz8, hs8, hb8⟩ := info8
  have C := Lib.hid (check_any B g l e d w h)
  clear h
  go_enter Tryz.func64, Tryz.ntmps64
  go_wp2_with fail
  refine (C.out).mono ?_
  rintro ev w1 ⟨rfl, ⟨hB, v, hg, ho⟩, hb1, hoth⟩
  replace hoth := Lib.hid hoth
  have c1 : w1.cell? ⟨g, 1, none⟩ = some v := by rw [cell_of hg]; rfl
  have hoH := Lib.hid ho
  have hgH := Lib.hid hg
  have hb1H := Lib.hid hb1
  clear ho hg hb1 C
  go_wp2_with (at_builtin; refine wpList_append_own _ (by rfl) _ _ 30 (by rfl) B 5 i8 _ 1 1 Tryz.underlying30 hi8 hz8 hs8 hb8 (by rfl) (by decide) _ _ _ (by rfl) (hoH.out.alloc _) ⟨w1.heap.size, 0, none⟩ 1 1 [.int .u8 (c.toNat : Int)] (by rfl) (by rfl) (World.news_of_block (heap_alloc_at w1 _)) (by simp [Value.oneCell']) (by unfold maxLen; omega) (by omega) (by have := hb1H.out.size; simp; omega) ?_; intro v' w2 hown' hgrow hniff; clear hniff; obtain ⟨ao, n', cap, rfl⟩ := own_slice hown'; obtain ⟨hg2', d1, f1⟩ := after_row1 hgH.out hoH.out hgrow; have hg2 := Lib.hid hg2'; have hownH := Lib.hid hown'; have hgrowH := Lib.hid hgrow; clear hown' hgrow hg2')
  have hbl := Lib.hid ((hb1H.out.alloc (by have := hb1H.out.size; omega) _).grown hgrowH.out (by have := hb1H.out.size; simp; omega) (fun k hk => (hoH.out.lt k hk).1))
  have hput := Lib.hid (fun u (hu : w2.ownsRow B 5 1 u (l ++ [c]).length (bc (l ++ [c]))) => used_put (e := e) (d := d) hB (.inr rfl) hg2.out hu)
  rw [show (l ++ [c]).length = l.length + 1 from by simp, bc_append] at hput
  go_ret
  refine ⟨rfl, hput.out _ hownH.out, hbl.out.setCell (p := ⟨g, 1, none⟩) hB _, ((hoth.out.trans (Oth.alloc _ _ _)).trans (Oth.grown (hoH.out.alloc _) hgrowH.out)).trans (Oth.set _ _ _ _)⟩
set_option maxRecDepth 100000 in
set_option maxHeartbeats 2000000 in
theorem text_any (B g : Nat) (l : List UInt8) (e d : Value) (w : World) (h : WAt B g l e d w) (h0 : l ≠ []) :
    Calls Tryz.prog 42 #[.pointer (some ⟨g, 0, none⟩)] w fun ev w' => ev = .returned (.string ⟨l.toArray⟩) ∧ Below B w w' := by
  obtain ⟨hB, p, v, hp, hg, hown⟩ := h
  have hl0 : l.length ≠ 0 := by simpa using h0
  obtain ⟨k, cap, cur, rfl, hbk, hk, hnc, hcm, hcs, htake⟩ : ∃ k cap cur, v = .slice (some ⟨k, 0, none⟩) l.length cap ∧ B ≤ k ∧ w.heap[k]? = some (.cells cur 5 (0, 0)) ∧ l.length ≤ cap ∧ cap ≤ maxLen ∧ cur.size = cap * 1 ∧ cur.toList.take (l.length * 1) = bc l := by
    rcases hown.2 with ⟨_, hz⟩ | ⟨k, cap, cur, hv, r⟩
    · exact absurd hz hl0
    · exact ⟨k, cap, cur, hv, r⟩
  have c1 : w.drew.cell? ⟨g, 1, none⟩ = some (.slice (some ⟨k, 0, none⟩) l.length cap) := by
    have : w.drew.heap[g]? = some (.cells #[p, .slice (some ⟨k, 0, none⟩) l.length cap, e, d] 93 (0, 0)) := hg
    rw [cell_of this]; rfl
  have hSD : (Builtin.unsafeSliceData_ #[30] 135 #[.slice (some ⟨k, 0, none⟩) l.length cap]).run Tryz.prog w.drew = .ok (.pointer (some ⟨k, 0, none⟩)) w.drew :=
    Lib.run_unsafeSliceData_row _ _ _ _ _ _ (by omega)
  have hUS : (Builtin.unsafeString_ #[135, 3] 9 #[.pointer (some ⟨k, 0, none⟩), .int .i64 l.length]).run Tryz.prog w.drew = .ok (.string ⟨l.toArray⟩) (w.drew.freeze ⟨k, 0, none⟩ l.length) := by
    refine Lib.run_unsafeString_row w.drew 135 3 9 5 Tryz.underlying135 (by kernel_rfl) k cur.size (by have hg' : w.drew.heap[k]? = some (.cells cur 5 (0, 0)) := hk; simp [World.shape?, hg']) l h0 (by omega) (by unfold maxLen at hcm; omega) ?_
    intro j x hx
    have := hown.cells (g := k) rfl j (.int .u8 x.toNat) (by simp [bc, hx])
    exact this
  clear htake hown hg hk
  go_enter Tryz.func42, Tryz.ntmps42
  go_wp2_with fail
  go_region
  all_goals (go_wp2_with fail; go_ret; exact ⟨rfl, Lib.below_freeze (Below.drew (Below.refl B w)) (p := ⟨k, 0, none⟩) hbk _⟩)
end Go.Proofs.YtbefkoljcacpcaaGreatDoor.Bld
namespace Go.Proofs
open Go.Shelf
def Tryz.lays160_ren : Go.Shelf.Ren := ⟨fun | 160 => 88 | 232 => 104 | 231 => 103 | 227 => 105 | 234 => 107 | 233 => 106 | 236 => 109 | 235 => 108 | 228 => 119 | 271 => 122 | 151 => 121 | 197 => 120 | 120 => 130 | 152 => 129 | 260 => 128 | 137 => 89 | 119 => 131 | 224 => 132 | 225 => 133 | 217 => 110 | 266 => 123 | n => n, fun | 9 => 9 | 4 => 4 | 3 => 3 | 5 => 5 | 117 => 183 | 116 => 182 | 0 => 0 | 124 => 186 | 21 => 21 | 105 => 198 | 46 => 103 | 119 => 209 | 139 => 212 | 138 => 211 | n => n, fun | 3 => 7 | 4 => 8 | n => n⟩
theorem Tryz.lays160 : Go.Proofs.Lays.n160 Tryz.prog Tryz.lays160_ren := {
  mixed := by kernel_rfl
  f119 := Tryz.func131.trans (congrArg some (by kernel_rfl))
  f120 := Tryz.func130.trans (congrArg some (by kernel_rfl))
  f137 := Tryz.func89.trans (congrArg some (by kernel_rfl))
  f151 := Tryz.func121.trans (congrArg some (by kernel_rfl))
  f152 := Tryz.func129.trans (congrArg some (by kernel_rfl))
  f160 := Tryz.func88.trans (congrArg some (by kernel_rfl))
  f197 := Tryz.func120.trans (congrArg some (by kernel_rfl))
  f217 := Tryz.func110.trans (congrArg some (by kernel_rfl))
  f224 := Tryz.func132.trans (congrArg some (by kernel_rfl))
  f225 := Tryz.func133.trans (congrArg some (by kernel_rfl))
  f227 := Tryz.func105.trans (congrArg some (by kernel_rfl))
  f228 := Tryz.func119.trans (congrArg some (by kernel_rfl))
  f231 := Tryz.func103.trans (congrArg some (by kernel_rfl))
  f232 := Tryz.func104.trans (congrArg some (by kernel_rfl))
  f233 := Tryz.func106.trans (congrArg some (by kernel_rfl))
  f234 := Tryz.func107.trans (congrArg some (by kernel_rfl))
  f235 := Tryz.func108.trans (congrArg some (by kernel_rfl))
  f236 := Tryz.func109.trans (congrArg some (by kernel_rfl))
  f260 := Tryz.func128.trans (congrArg some (by kernel_rfl))
  f266 := Tryz.func123.trans (congrArg some (by kernel_rfl))
  f271 := Tryz.func122.trans (congrArg some (by kernel_rfl))
  t0 := Tryz.underlying0
  a0 := Tryz.isAgg0
  z0 := Tryz.sizeOf0
  v0 := Tryz.zeroValue0
  t3 := Tryz.underlying3
  a3 := Tryz.isAgg3
  z3 := Tryz.sizeOf3
  v3 := Tryz.zeroValue3
  t4 := Tryz.underlying4
  a4 := Tryz.isAgg4
  z4 := Tryz.sizeOf4
  v4 := Tryz.zeroValue4
  t5 := Tryz.underlying5
  a5 := Tryz.isAgg5
  z5 := Tryz.sizeOf5
  v5 := Tryz.zeroValue5
  t9 := Tryz.underlying9
  a9 := Tryz.isAgg9
  z9 := Tryz.sizeOf9
  v9 := Tryz.zeroValue9
  t21 := Tryz.underlying21
  a21 := Tryz.isAgg21
  z21 := Tryz.sizeOf21
  v21 := Tryz.zeroValue21
  t46 := Tryz.underlying103
  a46 := Tryz.isAgg103
  z46 := Tryz.sizeOf103
  v46 := Tryz.zeroValue103
  t105 := Tryz.underlying198
  a105 := Tryz.isAgg198
  z105 := Tryz.sizeOf198
  v105 := Tryz.zeroValue198
  t116 := Tryz.underlying182
  a116 := Tryz.isAgg182
  z116 := Tryz.sizeOf182
  t117 := Tryz.underlying183
  a117 := Tryz.isAgg183
  z117 := Tryz.sizeOf183
  v117 := Tryz.zeroValue183
  t119 := Tryz.underlying209
  a119 := Tryz.isAgg209
  z119 := Tryz.sizeOf209
  t124 := Tryz.underlying186
  a124 := Tryz.isAgg186
  z124 := Tryz.sizeOf186
  v124 := Tryz.zeroValue186
  t138 := Tryz.underlying211
  a138 := Tryz.isAgg211
  z138 := Tryz.sizeOf211
  v138 := Tryz.zeroValue211
  t139 := Tryz.underlying212
  a139 := Tryz.isAgg212
  z139 := Tryz.sizeOf212
  v139 := Tryz.zeroValue212
  g3 := by kernel_rfl
  g4 := by kernel_rfl }
def Tryz.lays137_ren : Go.Shelf.Ren := ⟨fun | 137 => 89 | 217 => 110 | 266 => 123 | n => n, fun | 9 => 9 | 5 => 5 | 3 => 3 | n => n, fun | n => n⟩
theorem Tryz.lays137 : Go.Proofs.Lays.n137 Tryz.prog Tryz.lays137_ren := {
  mixed := by kernel_rfl
  f137 := Tryz.func89.trans (congrArg some (by kernel_rfl))
  f217 := Tryz.func110.trans (congrArg some (by kernel_rfl))
  f266 := Tryz.func123.trans (congrArg some (by kernel_rfl))
  t3 := Tryz.underlying3
  a3 := Tryz.isAgg3
  z3 := Tryz.sizeOf3
  v3 := Tryz.zeroValue3
  t5 := Tryz.underlying5
  a5 := Tryz.isAgg5
  z5 := Tryz.sizeOf5
  v5 := Tryz.zeroValue5
  t9 := Tryz.underlying9
  a9 := Tryz.isAgg9
  z9 := Tryz.sizeOf9
  v9 := Tryz.zeroValue9 }
open Go.RowKit in
theorem Tryz.strings_IndexByte (s : ByteArray) (c : Int) (w : World) :
    Calls Tryz.prog 89 #[.string s, .int .u8 c] w fun e w' => e = .returned (.int .i64 (Lib.indexByte s.data.toList c.toNat.toUInt8)) ∧ w' = w := Any.strings_IndexByte Tryz.lays137 s c w
def Tryz.laysM171_ren : Go.Shelf.Ren := ⟨fun | 171 => 39 | 243 => 62 | 246 => 76 | 283 => 90 | 284 => 91 | 285 => 92 | 286 => 93 | 129 => 112 | 317 => 111 | 318 => 113 | 319 => 114 | 320 => 115 | 337 => 124 | 338 => 125 | n => n, fun | 3 => 3 | 9 => 9 | 2 => 2 | 4 => 4 | 171 => 164 | 0 => 0 | 53 => 102 | 37 => 30 | 5 => 5 | 173 => 167 | 212 => 189 | 51 => 97 | 20 => 20 | 213 => 190 | 46 => 103 | 232 => 207 | 233 => 208 | n => n, fun | 17 => 1 | 18 => 5 | 19 => 6 | n => n⟩
theorem Tryz.laysM171 : Go.Proofs.LaysM.n171 Tryz.prog Tryz.laysM171_ren := {
  mixed := by kernel_rfl
  f129 := Tryz.func112.trans (congrArg some (by kernel_rfl))
  f171 := Tryz.func39.trans (congrArg some (by kernel_rfl))
  f243 := Tryz.func62.trans (congrArg some (by kernel_rfl))
  f246 := Tryz.func76.trans (congrArg some (by kernel_rfl))
  f283 := Tryz.func90.trans (congrArg some (by kernel_rfl))
  f284 := Tryz.func91.trans (congrArg some (by kernel_rfl))
  f285 := Tryz.func92.trans (congrArg some (by kernel_rfl))
  f286 := Tryz.func93.trans (congrArg some (by kernel_rfl))
  f317 := Tryz.func111.trans (congrArg some (by kernel_rfl))
  f318 := Tryz.func113.trans (congrArg some (by kernel_rfl))
  f319 := Tryz.func114.trans (congrArg some (by kernel_rfl))
  f320 := Tryz.func115.trans (congrArg some (by kernel_rfl))
  f337 := Tryz.func124.trans (congrArg some (by kernel_rfl))
  f338 := Tryz.func125.trans (congrArg some (by kernel_rfl))
  t0 := Tryz.underlying0
  a0 := Tryz.isAgg0
  z0 := Tryz.sizeOf0
  v0 := Tryz.zeroValue0
  t2 := Tryz.underlying2
  a2 := Tryz.isAgg2
  z2 := Tryz.sizeOf2
  v2 := Tryz.zeroValue2
  t3 := Tryz.underlying3
  a3 := Tryz.isAgg3
  z3 := Tryz.sizeOf3
  v3 := Tryz.zeroValue3
  t4 := Tryz.underlying4
  a4 := Tryz.isAgg4
  z4 := Tryz.sizeOf4
  v4 := Tryz.zeroValue4
  t5 := Tryz.underlying5
  a5 := Tryz.isAgg5
  z5 := Tryz.sizeOf5
  v5 := Tryz.zeroValue5
  t9 := Tryz.underlying9
  a9 := Tryz.isAgg9
  z9 := Tryz.sizeOf9
  v9 := Tryz.zeroValue9
  t20 := Tryz.underlying20
  a20 := Tryz.isAgg20
  z20 := Tryz.sizeOf20
  v20 := Tryz.zeroValue20
  t37 := Tryz.underlying30
  a37 := Tryz.isAgg30
  z37 := Tryz.sizeOf30
  v37 := Tryz.zeroValue30
  t46 := Tryz.underlying103
  a46 := Tryz.isAgg103
  z46 := Tryz.sizeOf103
  v46 := Tryz.zeroValue103
  t51 := Tryz.underlying97
  a51 := Tryz.isAgg97
  z51 := Tryz.sizeOf97
  v51 := Tryz.zeroValue97
  t53 := Tryz.underlying102
  a53 := Tryz.isAgg102
  z53 := Tryz.sizeOf102
  v53 := Tryz.zeroValue102
  t171 := Tryz.underlying164
  a171 := Tryz.isAgg164
  z171 := Tryz.sizeOf164
  v171 := Tryz.zeroValue164
  t173 := Tryz.underlying167
  a173 := Tryz.isAgg167
  z173 := Tryz.sizeOf167
  v173 := Tryz.zeroValue167
  t212 := Tryz.underlying189
  a212 := Tryz.isAgg189
  z212 := Tryz.sizeOf189
  v212 := Tryz.zeroValue189
  t213 := Tryz.underlying190
  a213 := Tryz.isAgg190
  z213 := Tryz.sizeOf190
  t232 := Tryz.underlying207
  a232 := Tryz.isAgg207
  z232 := Tryz.sizeOf207
  v232 := Tryz.zeroValue207
  t233 := Tryz.underlying208
  a233 := Tryz.isAgg208
  z233 := Tryz.sizeOf208
  v233 := Tryz.zeroValue208
  g17 := by kernel_rfl
  g18 := by kernel_rfl
  g19 := by kernel_rfl
  i0 := by kernel_rfl
  i2 := by kernel_rfl
  i3 := by kernel_rfl
  i4 := by kernel_rfl
  i5 := by kernel_rfl
  i9 := by kernel_rfl
  i20 := by kernel_rfl
  i37 := by kernel_rfl
  i46 := by kernel_rfl
  i51 := by kernel_rfl
  i53 := by kernel_rfl
  i171 := by kernel_rfl
  i173 := by kernel_rfl
  i212 := by kernel_rfl
  i232 := by kernel_rfl
  i233 := by kernel_rfl
  m17 := by kernel_rfl
  m18 := by kernel_rfl
  m19 := by kernel_rfl }
open Go.RowKit Go.Sort Go.Lib in
theorem Tryz.strconv_Itoa (n : Int) (h0 : -9223372036854775808 ≤ n) (h1 : n ≤ 9223372036854775807) (w : World) (htab : Lib.TabIs Tryz.prog w "internal/strconv.uint64pow10" .u64 Lib.pow10Tab) :
    Calls Tryz.prog 39 #[.int .i64 n] w fun e w' => e = .returned (.string ⟨(Lib.itoa n).toArray⟩) ∧ ∃ k os, w' = grow (w.drewN k) os := Any.strconv_Itoa Tryz.laysM171 n h0 h1 w htab
def Tryz.laysC172_ren : Go.Shelf.Ren := ⟨fun | 172 => 71 | 244 => 84 | 245 => 85 | 247 => 96 | 279 => 97 | 280 => 98 | 281 => 99 | 282 => 100 | 287 => 116 | 316 => 117 | 171 => 39 | 205 => 118 | 321 => 126 | 322 => 127 | 243 => 62 | 246 => 76 | 283 => 90 | 284 => 91 | 285 => 92 | 286 => 93 | 129 => 112 | 317 => 111 | 318 => 113 | 319 => 114 | 320 => 115 | 337 => 124 | 338 => 125 | n => n, fun | 9 => 9 | 3 => 3 | 75 => 27 | 76 => 106 | 4 => 4 | 5 => 5 | 167 => 171 | 37 => 30 | 0 => 0 | 85 => 172 | 2 => 2 | 168 => 174 | 53 => 102 | 175 => 192 | 46 => 103 | 210 => 195 | 127 => 135 | 145 => 205 | 143 => 203 | 21 => 21 | 171 => 164 | 173 => 167 | 212 => 189 | 51 => 97 | 20 => 20 | 213 => 190 | 232 => 207 | 233 => 208 | 80 => 96 | n => n, fun | 15 => 3 | 16 => 4 | 17 => 1 | 18 => 5 | 19 => 6 | n => n⟩
theorem Tryz.laysC172 : Go.Proofs.LaysC.n172 Tryz.prog Tryz.laysC172_ren := {
  mixed := by kernel_rfl
  f129 := Tryz.func112.trans (congrArg some (by kernel_rfl))
  f171 := Tryz.func39.trans (congrArg some (by kernel_rfl))
  f172 := Tryz.func71.trans (congrArg some (by kernel_rfl))
  f205 := Tryz.func118.trans (congrArg some (by kernel_rfl))
  f243 := Tryz.func62.trans (congrArg some (by kernel_rfl))
  f244 := Tryz.func84.trans (congrArg some (by kernel_rfl))
  f245 := Tryz.func85.trans (congrArg some (by kernel_rfl))
  f246 := Tryz.func76.trans (congrArg some (by kernel_rfl))
  f247 := Tryz.func96.trans (congrArg some (by kernel_rfl))
  f279 := Tryz.func97.trans (congrArg some (by kernel_rfl))
  f280 := Tryz.func98.trans (congrArg some (by kernel_rfl))
  f281 := Tryz.func99.trans (congrArg some (by kernel_rfl))
  f282 := Tryz.func100.trans (congrArg some (by kernel_rfl))
  f283 := Tryz.func90.trans (congrArg some (by kernel_rfl))
  f284 := Tryz.func91.trans (congrArg some (by kernel_rfl))
  f285 := Tryz.func92.trans (congrArg some (by kernel_rfl))
  f286 := Tryz.func93.trans (congrArg some (by kernel_rfl))
  f287 := Tryz.func116.trans (congrArg some (by kernel_rfl))
  f316 := Tryz.func117.trans (congrArg some (by kernel_rfl))
  f317 := Tryz.func111.trans (congrArg some (by kernel_rfl))
  f318 := Tryz.func113.trans (congrArg some (by kernel_rfl))
  f319 := Tryz.func114.trans (congrArg some (by kernel_rfl))
  f320 := Tryz.func115.trans (congrArg some (by kernel_rfl))
  f321 := Tryz.func126.trans (congrArg some (by kernel_rfl))
  f322 := Tryz.func127.trans (congrArg some (by kernel_rfl))
  f337 := Tryz.func124.trans (congrArg some (by kernel_rfl))
  f338 := Tryz.func125.trans (congrArg some (by kernel_rfl))
  t0 := Tryz.underlying0
  a0 := Tryz.isAgg0
  z0 := Tryz.sizeOf0
  v0 := Tryz.zeroValue0
  t2 := Tryz.underlying2
  a2 := Tryz.isAgg2
  z2 := Tryz.sizeOf2
  v2 := Tryz.zeroValue2
  t3 := Tryz.underlying3
  a3 := Tryz.isAgg3
  z3 := Tryz.sizeOf3
  v3 := Tryz.zeroValue3
  t4 := Tryz.underlying4
  a4 := Tryz.isAgg4
  z4 := Tryz.sizeOf4
  v4 := Tryz.zeroValue4
  t5 := Tryz.underlying5
  a5 := Tryz.isAgg5
  z5 := Tryz.sizeOf5
  v5 := Tryz.zeroValue5
  t9 := Tryz.underlying9
  a9 := Tryz.isAgg9
  z9 := Tryz.sizeOf9
  v9 := Tryz.zeroValue9
  t20 := Tryz.underlying20
  a20 := Tryz.isAgg20
  z20 := Tryz.sizeOf20
  v20 := Tryz.zeroValue20
  t21 := Tryz.underlying21
  a21 := Tryz.isAgg21
  z21 := Tryz.sizeOf21
  v21 := Tryz.zeroValue21
  t37 := Tryz.underlying30
  a37 := Tryz.isAgg30
  z37 := Tryz.sizeOf30
  v37 := Tryz.zeroValue30
  t46 := Tryz.underlying103
  a46 := Tryz.isAgg103
  z46 := Tryz.sizeOf103
  v46 := Tryz.zeroValue103
  t51 := Tryz.underlying97
  a51 := Tryz.isAgg97
  z51 := Tryz.sizeOf97
  v51 := Tryz.zeroValue97
  t53 := Tryz.underlying102
  a53 := Tryz.isAgg102
  z53 := Tryz.sizeOf102
  v53 := Tryz.zeroValue102
  t75 := Tryz.underlying27
  a75 := Tryz.isAgg27
  z75 := Tryz.sizeOf27
  v75 := Tryz.zeroValue27
  t76 := Tryz.underlying106
  a76 := Tryz.isAgg106
  z76 := Tryz.sizeOf106
  v76 := Tryz.zeroValue106
  t85 := Tryz.underlying172
  a85 := Tryz.isAgg172
  z85 := Tryz.sizeOf172
  v85 := Tryz.zeroValue172
  t127 := Tryz.underlying135
  a127 := Tryz.isAgg135
  z127 := Tryz.sizeOf135
  v127 := Tryz.zeroValue135
  t143 := Tryz.underlying203
  a143 := Tryz.isAgg203
  z143 := Tryz.sizeOf203
  v143 := Tryz.zeroValue203
  t145 := Tryz.underlying205
  a145 := Tryz.isAgg205
  z145 := Tryz.sizeOf205
  v145 := Tryz.zeroValue205
  t167 := Tryz.underlying171
  a167 := Tryz.isAgg171
  z167 := Tryz.sizeOf171
  v167 := Tryz.zeroValue171
  t168 := Tryz.underlying174
  a168 := Tryz.isAgg174
  z168 := Tryz.sizeOf174
  v168 := Tryz.zeroValue174
  t171 := Tryz.underlying164
  a171 := Tryz.isAgg164
  z171 := Tryz.sizeOf164
  v171 := Tryz.zeroValue164
  t173 := Tryz.underlying167
  a173 := Tryz.isAgg167
  z173 := Tryz.sizeOf167
  v173 := Tryz.zeroValue167
  t175 := Tryz.underlying192
  a175 := Tryz.isAgg192
  z175 := Tryz.sizeOf192
  v175 := Tryz.zeroValue192
  t210 := Tryz.underlying195
  a210 := Tryz.isAgg195
  z210 := Tryz.sizeOf195
  v210 := Tryz.zeroValue195
  t212 := Tryz.underlying189
  a212 := Tryz.isAgg189
  z212 := Tryz.sizeOf189
  v212 := Tryz.zeroValue189
  t213 := Tryz.underlying190
  a213 := Tryz.isAgg190
  z213 := Tryz.sizeOf190
  t232 := Tryz.underlying207
  a232 := Tryz.isAgg207
  z232 := Tryz.sizeOf207
  v232 := Tryz.zeroValue207
  t233 := Tryz.underlying208
  a233 := Tryz.isAgg208
  z233 := Tryz.sizeOf208
  v233 := Tryz.zeroValue208
  g15 := by kernel_rfl
  g16 := by kernel_rfl
  g17 := by kernel_rfl
  g18 := by kernel_rfl
  g19 := by kernel_rfl
  t80 := Tryz.underlying96
  a80 := Tryz.isAgg96
  z80 := Tryz.sizeOf96
  v80 := Tryz.zeroValue96
  i0 := by kernel_rfl
  i2 := by kernel_rfl
  i3 := by kernel_rfl
  i4 := by kernel_rfl
  i5 := by kernel_rfl
  i9 := by kernel_rfl
  i20 := by kernel_rfl
  i21 := by kernel_rfl
  i37 := by kernel_rfl
  i46 := by kernel_rfl
  i51 := by kernel_rfl
  i53 := by kernel_rfl
  i75 := by kernel_rfl
  i76 := by kernel_rfl
  i80 := by kernel_rfl
  i85 := by kernel_rfl
  i127 := by kernel_rfl
  i143 := by kernel_rfl
  i145 := by kernel_rfl
  i167 := by kernel_rfl
  i168 := by kernel_rfl
  i171 := by kernel_rfl
  i173 := by kernel_rfl
  i175 := by kernel_rfl
  i210 := by kernel_rfl
  i212 := by kernel_rfl
  i232 := by kernel_rfl
  i233 := by kernel_rfl
  m15 := by kernel_rfl
  m16 := by kernel_rfl
  m17 := by kernel_rfl
  m18 := by kernel_rfl
  m19 := by kernel_rfl
  c0 := by kernel_rfl
  c2 := by kernel_rfl
  c3 := by kernel_rfl
  c4 := by kernel_rfl
  c5 := by kernel_rfl
  c9 := by kernel_rfl
  c20 := by kernel_rfl
  c21 := by kernel_rfl
  c37 := by kernel_rfl
  c46 := by kernel_rfl
  c51 := by kernel_rfl
  c53 := by kernel_rfl
  c75 := by kernel_rfl
  c76 := by kernel_rfl
  c80 := by kernel_rfl
  c85 := by kernel_rfl
  c127 := by kernel_rfl
  c143 := by kernel_rfl
  c145 := by kernel_rfl
  c167 := by kernel_rfl
  c168 := by kernel_rfl
  c171 := by kernel_rfl
  c173 := by kernel_rfl
  c175 := by kernel_rfl
  c210 := by kernel_rfl
  c212 := by kernel_rfl
  c213 := by kernel_rfl
  c232 := by kernel_rfl
  c233 := by kernel_rfl }
open Go.RowKit in
theorem Tryz.strconv_Atoi_ok (s : ByteArray) (hmax : s.size ≤ 9223372036854775806) (v : Int) (h : Lib.atoiAll s.data.toList = .ok v) (w : World) :
    Calls Tryz.prog 71 #[.string s] w fun e w' => e = .returned (.tuple #[.int .i64 v, .nilIface]) ∧ (w' = w ∨ ∃ t, w' = Lib.bytesWorld w 5 t) := Any.strconv_Atoi_ok Tryz.laysC172 s hmax v h w
open Go.RowKit in
theorem Tryz.strconv_Atoi_syntax (s : ByteArray) (hlim : s.size ≤ 281474976710656) (h : Lib.atoiAll s.data.toList = .«syntax») (ev : Value) (w : World) (hv : w.cell? ⟨3, 0, none⟩ = some ev) (hev : ev = .nilIface ∨ ∃ te pe, ev = .iface te pe) :
    Calls Tryz.prog 71 #[.string s] w fun e w' => ∃ N, e = .returned (.tuple #[.int .i64 (0), .iface 174 (.pointer (some ⟨N, 0, none⟩))]) ∧ w.heap.size ≤ N ∧ w'.heap[N]? = some (.cells #[.string ⟨#[65, 116, 111, 105]⟩, .string s, ev] 195 (0, 0)) ∧ Below w.heap.size w w' := Any.strconv_Atoi_syntax Tryz.laysC172 s hlim h ev w hv hev
open Go.RowKit in
theorem Tryz.strconv_Atoi_range (s : ByteArray) (hlim : s.size ≤ 281474976710656) (h : Lib.atoiAll s.data.toList = .range) (ev : Value) (w : World) (hv : w.cell? ⟨4, 0, none⟩ = some ev) (hev : ev = .nilIface ∨ ∃ te pe, ev = .iface te pe) :
    Calls Tryz.prog 71 #[.string s] w fun e w' => ∃ N, e = .returned (.tuple #[.int .i64 (Lib.atoiSat s.data.toList), .iface 174 (.pointer (some ⟨N, 0, none⟩))]) ∧ w.heap.size ≤ N ∧ w'.heap[N]? = some (.cells #[.string ⟨#[65, 116, 111, 105]⟩, .string s, ev] 195 (0, 0)) ∧ Below w.heap.size w w' := Any.strconv_Atoi_range Tryz.laysC172 s hlim h ev w hv hev
def Tryz.lays99_ren : Go.Shelf.Ren := ⟨fun | 99 => 68 | 206 => 81 | n => n, fun | 9 => 9 | 4 => 4 | 3 => 3 | n => n, fun | n => n⟩
theorem Tryz.lays99 : Go.Proofs.Lays.n99 Tryz.prog Tryz.lays99_ren := {
  mixed := by kernel_rfl
  f99 := Tryz.func68.trans (congrArg some (by kernel_rfl))
  f206 := Tryz.func81.trans (congrArg some (by kernel_rfl))
  t3 := Tryz.underlying3
  a3 := Tryz.isAgg3
  z3 := Tryz.sizeOf3
  v3 := Tryz.zeroValue3
  t4 := Tryz.underlying4
  a4 := Tryz.isAgg4
  z4 := Tryz.sizeOf4
  v4 := Tryz.zeroValue4
  t9 := Tryz.underlying9
  a9 := Tryz.isAgg9
  z9 := Tryz.sizeOf9
  v9 := Tryz.zeroValue9 }
open Go.RowKit Go.Lib in
theorem Tryz.strings_HasPrefix (s p : ByteArray) (w : World) :
    Calls Tryz.prog 68 #[.string s, .string p] w fun e w' => e = .returned (.bool (Lib.hasPrefix s.data.toList p.data.toList)) ∧ w' = w := Any.strings_HasPrefix Tryz.lays99 s p w
def Tryz.lays105_ren : Go.Shelf.Ren := ⟨fun | 105 => 44 | 212 => 67 | 99 => 68 | 165 => 69 | 166 => 63 | 170 => 41 | 169 => 42 | 263 => 79 | 264 => 80 | 206 => 81 | 240 => 77 | 241 => 82 | 276 => 94 | 277 => 95 | n => n, fun | 9 => 9 | 3 => 3 | 4 => 4 | 20 => 20 | 0 => 0 | 46 => 103 | 109 => 139 | 5 => 5 | 72 => 91 | 76 => 106 | 51 => 97 | 146 => 153 | 53 => 102 | 148 => 155 | 70 => 89 | 37 => 30 | 75 => 27 | 127 => 135 | 164 => 73 | 80 => 96 | n => n, fun | n => n⟩
theorem Tryz.lays105 : Go.Proofs.Lays.n105 Tryz.prog Tryz.lays105_ren := {
  mixed := by kernel_rfl
  f99 := Tryz.func68.trans (congrArg some (by kernel_rfl))
  f105 := Tryz.func44.trans (congrArg some (by kernel_rfl))
  f165 := Tryz.func69.trans (congrArg some (by kernel_rfl))
  f166 := Tryz.func63.trans (congrArg some (by kernel_rfl))
  f169 := Tryz.func42.trans (congrArg some (by kernel_rfl))
  f170 := Tryz.func41.trans (congrArg some (by kernel_rfl))
  f206 := Tryz.func81.trans (congrArg some (by kernel_rfl))
  f212 := Tryz.func67.trans (congrArg some (by kernel_rfl))
  f240 := Tryz.func77.trans (congrArg some (by kernel_rfl))
  f241 := Tryz.func82.trans (congrArg some (by kernel_rfl))
  f263 := Tryz.func79.trans (congrArg some (by kernel_rfl))
  f264 := Tryz.func80.trans (congrArg some (by kernel_rfl))
  f276 := Tryz.func94.trans (congrArg some (by kernel_rfl))
  f277 := Tryz.func95.trans (congrArg some (by kernel_rfl))
  t0 := Tryz.underlying0
  a0 := Tryz.isAgg0
  z0 := Tryz.sizeOf0
  v0 := Tryz.zeroValue0
  t3 := Tryz.underlying3
  a3 := Tryz.isAgg3
  z3 := Tryz.sizeOf3
  v3 := Tryz.zeroValue3
  t4 := Tryz.underlying4
  a4 := Tryz.isAgg4
  z4 := Tryz.sizeOf4
  v4 := Tryz.zeroValue4
  t5 := Tryz.underlying5
  a5 := Tryz.isAgg5
  z5 := Tryz.sizeOf5
  v5 := Tryz.zeroValue5
  t9 := Tryz.underlying9
  a9 := Tryz.isAgg9
  z9 := Tryz.sizeOf9
  v9 := Tryz.zeroValue9
  t20 := Tryz.underlying20
  a20 := Tryz.isAgg20
  z20 := Tryz.sizeOf20
  v20 := Tryz.zeroValue20
  t37 := Tryz.underlying30
  a37 := Tryz.isAgg30
  z37 := Tryz.sizeOf30
  v37 := Tryz.zeroValue30
  t46 := Tryz.underlying103
  a46 := Tryz.isAgg103
  z46 := Tryz.sizeOf103
  v46 := Tryz.zeroValue103
  t51 := Tryz.underlying97
  a51 := Tryz.isAgg97
  z51 := Tryz.sizeOf97
  v51 := Tryz.zeroValue97
  t53 := Tryz.underlying102
  a53 := Tryz.isAgg102
  z53 := Tryz.sizeOf102
  v53 := Tryz.zeroValue102
  t70 := Tryz.underlying89
  a70 := Tryz.isAgg89
  z70 := Tryz.sizeOf89
  v70 := Tryz.zeroValue89
  t72 := Tryz.underlying91
  a72 := Tryz.isAgg91
  z72 := Tryz.sizeOf91
  v72 := Tryz.zeroValue91
  t75 := Tryz.underlying27
  a75 := Tryz.isAgg27
  z75 := Tryz.sizeOf27
  v75 := Tryz.zeroValue27
  t76 := Tryz.underlying106
  a76 := Tryz.isAgg106
  z76 := Tryz.sizeOf106
  v76 := Tryz.zeroValue106
  t109 := Tryz.underlying139
  a109 := Tryz.isAgg139
  z109 := Tryz.sizeOf139
  v109 := Tryz.zeroValue139
  t127 := Tryz.underlying135
  a127 := Tryz.isAgg135
  z127 := Tryz.sizeOf135
  v127 := Tryz.zeroValue135
  t146 := Tryz.underlying153
  a146 := Tryz.isAgg153
  z146 := Tryz.sizeOf153
  v146 := Tryz.zeroValue153
  t148 := Tryz.underlying155
  a148 := Tryz.isAgg155
  z148 := Tryz.sizeOf155
  v148 := Tryz.zeroValue155
  t164 := Tryz.underlying73
  a164 := Tryz.isAgg73
  z164 := Tryz.sizeOf73
  v164 := Tryz.zeroValue73 }
theorem Tryz.Builder_Extra_105 : Builder.Extra Tryz.prog Tryz.lays105_ren := {
  sizeBuilder := by kernel_rfl
  liesBuilder := by kernel_rfl
  t5 := Tryz.underlying5
  a5 := Tryz.isAgg5
  z5 := Tryz.sizeOf5
  v5 := Tryz.zeroValue5
  infoByte := by kernel_rfl
  cellsByte := by kernel_rfl
  sizeByte := by kernel_rfl
  neB5 := by decide }
open Go.RowKit Go.Lib in
theorem Tryz.strings_Repeat (s : ByteArray) (c : Nat) (w : World) (hc : c ≤ 9223372036854775807) (hlen : s.size * c ≤ 140737488355328) :
    Calls Tryz.prog 44 #[.string s, .int .i64 c] w fun e w' => e = .returned (.string ⟨(Lib.repeatL s.data.toList c).toArray⟩) ∧ Below w.heap.size w w' := Any.strings_Repeat Tryz.lays105 Tryz.Builder_Extra_105 s c w hc hlen
end Go.Proofs
set_option linter.unusedVariables false
set_option linter.unusedSimpArgs false
namespace Go.Proofs.YtbefkoljcacpcaaGreatDoor.Tm
open Go Go.RowKit Go.Proofs.YtbefkoljcacpcaaGreatDoor.B Go.Proofs.YtbefkoljcacpcaaGreatDoor.Bld
def Tab (w : World) : Prop := Lib.TabIs Tryz.prog w "internal/strconv.uint64pow10" .u64 Lib.pow10Tab
theorem gtab : Tryz.prog.globalNamed "internal/strconv.uint64pow10" = some 1 := by kernel_rfl
theorem Tab.below {w w' : World} {B : Nat} (h : Tab w) (hb : Below B w w') (hB : w.heap.size ≤ B) : Tab w' := Joins.tab_stays gtab h hb hB
theorem Tab.keep {w w' : World} {B : Nat} (h : Tab w) (hb : Below B w w') (hB : 1 < B) : Tab w' := by
  unfold Tab Lib.TabIs World.var? at *
  rw [gtab] at h ⊢
  simp only [Option.bind_some] at h ⊢
  rw [hb.block _ hB]
  exact h
theorem grow_below (w : World) (k : Nat) (os : Array Obj) : Below w.heap.size w (Sort.grow (w.drewN k) os) := by
  refine ⟨rfl, rfl, rfl, ?_, fun j hj => ?_⟩
  · show w.heap.size ≤ (w.heap ++ os).size
    simp
  · show (w.heap ++ os)[j]? = _
    rw [Array.getElem?_append_left hj]
theorem itoa_any (n : Nat) (hn : n ≤ 9223372036854775807) (w : World) (h : Tab w) :
    Calls Tryz.prog 39 #[.int .i64 n] w fun e w' => e = .returned (.string ⟨(Lib.decDigits n).toArray⟩) ∧ Below w.heap.size w w' := by
  refine (Tryz.strconv_Itoa n (by omega) (by omega) w h).mono ?_
  rintro e w' ⟨rfl, k, os, rfl⟩
  exact ⟨by rw [Lib.itoa_nonneg], grow_below w k os⟩
mutual
def FV (B : Nat) (w : World) : F → List Value → Prop
  | .mk b t l, cs => ∃ A c, cs = [.bool b, .string ⟨t.toArray⟩, .slice A l.length c] ∧ l.length ≤ c ∧ l.length ≤ 140737488355328 ∧ FVs B w A 0 l
def FVs (B : Nat) (w : World) (A : Option Addr) : Nat → List F → Prop
  | _, [] => True
  | i, f :: l => (∃ b o c0 c1 c2, A = some ⟨b, o, none⟩ ∧ b < B ∧ w.cell? ⟨b, o + i * 3, none⟩ = some c0 ∧ w.cell? ⟨b, o + i * 3 + 1, none⟩ = some c1 ∧ w.cell? ⟨b, o + i * 3 + 2, none⟩ = some c2 ∧ FV B w f [c0, c1, c2]) ∧ FVs B w A (i + 1) l
end
mutual
theorem FV.below {B : Nat} {w w' : World} (hb : Below B w w') : ∀ (f : F) (cs : List Value), FV B w f cs → FV B w' f cs
  | .mk b t l, cs, h => by
    unfold FV at h ⊢
    obtain ⟨A, c, h1, h2, h3, h4⟩ := h
    exact ⟨A, c, h1, h2, h3, FVs.below hb l A 0 h4⟩
theorem FVs.below {B : Nat} {w w' : World} (hb : Below B w w') : ∀ (l : List F) (A : Option Addr) (i : Nat), FVs B w A i l → FVs B w' A i l
  | [], _, _, _ => by unfold FVs; trivial
  | f :: l, A, i, h => by
    unfold FVs at h ⊢
    obtain ⟨⟨b, o, c0, c1, c2, h1, h2, h3, h4, h5, h6⟩, h7⟩ := h
    exact ⟨⟨b, o, c0, c1, c2, h1, h2, (hb.cell (p := ⟨b, _, none⟩) h2).trans h3, (hb.cell (p := ⟨b, _, none⟩) h2).trans h4, (hb.cell (p := ⟨b, _, none⟩) h2).trans h5, FV.below hb f _ h6⟩, FVs.below hb l A (i + 1) h7⟩
end
theorem FVs.get {B : Nat} {w : World} {A : Option Addr} : ∀ {l : List F} {i : Nat}, FVs B w A i l → ∀ (j : Nat) (hj : j < l.length),
    ∃ b o c0 c1 c2, A = some ⟨b, o, none⟩ ∧ b < B ∧ w.cell? ⟨b, o + (i + j) * 3, none⟩ = some c0 ∧ w.cell? ⟨b, o + (i + j) * 3 + 1, none⟩ = some c1 ∧ w.cell? ⟨b, o + (i + j) * 3 + 2, none⟩ = some c2 ∧ FV B w l[j] [c0, c1, c2]
  | [], _, _, j, hj => absurd hj (by simp)
  | f :: l, i, h, j, hj => by
    unfold FVs at h
    cases j with
    | zero => exact h.1
    | succ j =>
      have := FVs.get h.2 j (by simpa using hj)
      rwa [show i + 1 + j = i + (j + 1) from by omega] at this
theorem wat_alloc {B g : Nat} {l : List UInt8} {e d : Value} {w : World} (h : WAt B g l e d w) (o : Obj) : WAt B g l e d (w.alloc o) := by
  obtain ⟨h1, p, v, h2, h3, h4⟩ := h
  exact ⟨h1, p, v, h2, by rw [heap_alloc_lt _ _ _ (heap_lt h3)]; exact h3, h4.alloc _⟩
theorem wat_drew {B g : Nat} {l : List UInt8} {e d : Value} {w : World} (h : WAt B g l e d w) : WAt B g l e d w.drew := h
theorem wat_tch {B g : Nat} {l : List UInt8} {e d : Value} {w w' : World} (h : WAt B g l e d w) (k : Below w.heap.size w w') : WAt B g l e d w' := by
  obtain ⟨h1, p, v, h2, h3, h4⟩ := h
  exact ⟨h1, p, v, h2, (Tch.of_new (S := fun _ => False) k).heap h3 (fun e => e), own_keep h4 (Tch.of_new k)⟩
theorem box_keep {w2 w3 : World} {g k : Nat} {cs : Array Value} {ty : TypeId} {fz : Nat × Nat} (h2 : w2.heap[k]? = some (.cells cs ty fz)) (ho : Oth g w2 w3) (hne : k ≠ g) (hty : ty ≠ 5) (i : Nat) : w3.cell? ⟨k, i, none⟩ = cs[i]? := cell_of (ho k cs ty fz hne hty h2) i
set_option maxRecDepth 100000 in
set_option maxHeartbeats 2000000 in
theorem put_text (B g : Nat) (t : List UInt8) (e d : Value) (s : ByteArray) (deep : Nat) (A : Option Addr) (c : Nat) (w : World) (h : WAt B g t e d w) (htab : Tab w) (hdeep : deep ≤ 8)
    (hlen : t.length + (txt s.data.toList).bytes.length ≤ 65536) (hBw : B ≤ w.heap.size) :
    Calls Tryz.prog 40 #[.pointer (some ⟨g, 0, none⟩), .agg #[.bool false, .string s, .slice A 0 c], .int .i64 deep] w
      fun ev w' => ev = .returned (.tuple #[]) ∧ WAt B g (t ++ (txt s.data.toList).bytes) e d w' ∧ Below B w w' ∧ Oth g w w' := by
  have hsl : s.data.toList.length = s.size := by rw [Array.length_toList]; rfl
  have hbl : (txt s.data.toList).bytes.length = (Lib.decDigits s.size).length + 1 + s.size := by
    unfold txt F.bytes
    simp [hsl]; omega
  have hbe : (txt s.data.toList).bytes = (⟨(Lib.decDigits s.size).toArray⟩ ++ ⟨#[58]⟩ ++ s : ByteArray).data.toList := by
    unfold txt F.bytes
    rw [hsl]
    simp [ByteArray.data_append]
  have hdi : ¬ (8 : Int) < (deep : Int) := by omega
  have hti : decide ((65536 : Int) < (t.length : Int)) = false := by simp; omega
  have hNs : (⟨(Lib.decDigits s.size).toArray⟩ : ByteArray).size = (Lib.decDigits s.size).length := by show (Lib.decDigits s.size).toArray.size = _; simp
  obtain ⟨w0, hw0⟩ : ∃ w0, w0 = w.alloc (.cells #[.bool false, .string s, .slice A 0 c] 52) := ⟨_, rfl⟩
  have hbel : Below B w w0 := by rw [hw0]; exact (Below.refl _ _).alloc hBw _
  have hsz : w.heap.size < w0.heap.size := by rw [hw0]; simp
  have hb0 : w0.heap[w.heap.size]? = some (.cells #[.bool false, .string s, .slice A 0 c] 52 (0, 0)) := by rw [hw0]; exact heap_alloc_at _ _
  have CL := Lib.hid (len_any B g t e d w0 (by rw [hw0]; exact wat_alloc h _))
  have CI := Lib.hid (itoa_any s.size (by omega) w0.drew (by show Tab w0; rw [hw0]; exact htab.below ((Below.refl _ _).alloc (Nat.le_refl _) _) (Nat.le_refl _)))
  have hwa : WAt B g t e d w0 := by rw [hw0]; exact wat_alloc h _
  rw [hbl] at hlen
  have CS := Lib.hid (fun (N : ByteArray) W (hN : N.size ≤ 65536) (hW : Below w0.drew.heap.size w0.drew W) => string_any B g t e d (N ++ ⟨#[58]⟩ ++ s) W (wat_tch (wat_drew hwa) hW) (by rw [ByteArray.size_append, ByteArray.size_append]; show t.length + (N.size + 1 + s.size) ≤ _; omega) (by have := hW.size; have : w0.drew.heap.size = w0.heap.size := rfl; omega))
  rw [hbe]
  generalize (⟨(Lib.decDigits s.size).toArray⟩ : ByteArray) = N at *
  have hcat1 : (9223372036854775807 < N.size + 1) = False := eq_false (by omega)
  have hcat2 : (9223372036854775807 < N.size + 1 + s.size) = False := eq_false (by omega)
  have hNb := Lib.hid (show N.size ≤ 65536 by omega)
  have hbelH := Lib.hid hbel
  have hothH := Lib.hid (show Oth g w w0 by rw [hw0]; exact Oth.alloc _ _ _)
  have hneH := Lib.hid (show w.heap.size ≠ g by obtain ⟨_, p, v, _, hg, _⟩ := h; have := heap_lt hg; omega)
  have hb0H := Lib.hid hb0
  have hszH := Lib.hid hsz
  have hBwH := Lib.hid hBw
  have hc0 : w0.cell? ⟨w.heap.size, 0, none⟩ = some (.bool false) := by rw [cell_of hb0]; rfl
  have hc1 : w0.cell? ⟨w.heap.size, 1, none⟩ = some (.string s) := by rw [cell_of hb0]; rfl
  have hc2 : w0.cell? ⟨w.heap.size, 2, none⟩ = some (.slice A 0 c) := by rw [cell_of hb0]; rfl
  clear hbe hbl hNs hsl hlen hwa hb0 hbel hsz hBw h htab
  go_enter Tryz.func40, Tryz.ntmps40
  go_wp2_with fail
  rw [← hw0]
  replace hw0 := Lib.hid hw0
  refine (CL.out).mono ?_
  rintro ev w1 ⟨rfl, rfl⟩
  go_wp2_with fail
  go_region_held3 (fun W => W.cell? ⟨w.heap.size, 1, none⟩ = some (.string s)) (first | go_keep | (exact (cell_of hbx.out 1).trans rfl) | (exact (box_keep hbx.out hoth3.out hneH.out (by decide) 1).trans rfl))
    ((first
      | (go_at_call 39; refine (CI.out).mono ?_; rintro ev w2 ⟨rfl, hb1⟩; have hb1H := Lib.hid hb1; have hbx := Lib.hid ((hb1.block _ hszH.out).trans hb0H.out))
      | (go_at_call 63; refine (CS.out N _ hNb.out (by exact hb1)).mono ?_; rintro ev w3 ⟨rfl, hwat, hb3, hoth3⟩; replace hoth3 := Lib.hid hoth3; replace hwat := Lib.hid hwat; replace hb3 := Lib.hid hb3)))
  all_goals (try go_wp2_with fail)
  go_end0
  refine ⟨rfl, hwat.out, (hbelH.out.trans ?_).trans hb3.out, (hothH.out.trans ?_).trans hoth3.out⟩
  · have h := hb1H.out
    exact (Below.drew (Below.refl B w1)).trans (Below.mono (B' := B) (w := w1.drew) h (Nat.le_of_lt (Nat.lt_of_le_of_lt hBwH.out hszH.out)))
  · exact Oth.below (w := w1.drew) hb1H.out
theorem bytess_append : ∀ (a b : List F), bytess (a ++ b) = bytess a ++ bytess b
  | [], b => rfl
  | f :: a, b => by rw [List.cons_append, bytess, bytess, bytess_append a b, List.append_assoc]
theorem bytess_take (l : List F) (k : Nat) (h : k < l.length) : bytess (l.take (k + 1)) = bytess (l.take k) ++ (l[k]).bytes := by
  rw [List.take_add_one, List.getElem?_eq_getElem h, Option.toList_some, bytess_append, bytess, bytess, List.append_nil]
theorem bytess_le (l : List F) (k : Nat) : (bytess (l.take k)).length ≤ (bytess l).length := by
  have := bytess_append (l.take k) (l.drop k)
  rw [List.take_append_drop] at this
  rw [this, List.length_append]
  omega
theorem rights_get : ∀ {l : List F}, rights l = true → ∀ (k : Nat) (h : k < l.length), (l[k]).right = true
  | [], _, k, h => absurd h (by simp)
  | f :: l, hr, k, h => by
    unfold rights at hr
    simp only [Bool.and_eq_true] at hr
    cases k with
    | zero => exact hr.1
    | succ k => exact rights_get hr.2 k (by simpa using h)
theorem depths_get : ∀ {l : List F} (k : Nat) (h : k < l.length), (l[k]).depth ≤ depths l
  | [], k, h => absurd h (by simp)
  | f :: l, k, h => by
    unfold depths
    cases k with
    | zero => exact Nat.le_max_left _ _
    | succ k => exact Nat.le_trans (depths_get k (by simpa using h)) (Nat.le_max_right _ _)
def PutPost (B g : Nat) (t : List UInt8) (e d : Value) (w : World) (ev : Ending) (w' : World) : Prop := ev = .returned (.tuple #[]) ∧ WAt B g t e d w' ∧ Below B w w' ∧ Oth g w w'
def Puts (B g : Nat) (e d : Value) (f : F) : Prop := ∀ (t : List UInt8) (deep : Nat) (c0 c1 c2 : Value) (w : World), FV B w f [c0, c1, c2] → WAt B g t e d w → Tab w → B ≤ w.heap.size → 1 < B → f.depth + deep ≤ 8 → t.length + f.bytes.length ≤ 65536 →
  Calls Tryz.prog 40 #[.pointer (some ⟨g, 0, none⟩), .agg #[c0, c1, c2], .int .i64 deep] w (PutPost B g (t ++ f.bytes) e d w)
set_option maxRecDepth 100000 in
set_option maxHeartbeats 4000000 in
theorem put_list (B g : Nat) (e d : Value) (l : List F) (ih : ∀ (k : Nat) (h : k < l.length), Puts B g e d l[k]) (t : List UInt8) (deep : Nat) (A : Option Addr) (c : Nat) (w : World) (hl : l.length ≤ 140737488355328) (hfs : FVs B w A 0 l) (h : WAt B g t e d w) (htab : Tab w)
    (hBw : B ≤ w.heap.size) (hgB : 1 < B) (hdeep : depths l + 1 + deep ≤ 8) (hlen : t.length + ((bytess l).length + 2) ≤ 65536) :
    Calls Tryz.prog 40 #[.pointer (some ⟨g, 0, none⟩), .agg #[.bool true, .string ⟨#[]⟩, .slice A l.length c], .int .i64 deep] w (PutPost B g (t ++ 40 :: (bytess l ++ [41])) e d w) := by
  have hdi : ¬ (8 : Int) < (deep : Int) := by omega
  have hdi1 : ¬ (8 : Int) < (deep : Int) + 1 := by omega
  have hd8 : (deep : Int) ≤ 8 := by omega
  have hti : decide ((65536 : Int) < (t.length : Int)) = false := by simp; omega
  obtain ⟨w0, hw0⟩ : ∃ w0, w0 = w.alloc (.cells #[.bool true, .string ⟨#[]⟩, .slice A l.length c] 52) := ⟨_, rfl⟩
  have hbel := Lib.hid (show Below B w w0 by rw [hw0]; exact (Below.refl _ _).alloc hBw _)
  have hoth := Lib.hid (show Oth g w w0 by rw [hw0]; exact Oth.alloc _ _ _)
  have hwa : WAt B g t e d w0 := by rw [hw0]; exact wat_alloc h _
  have hsz : B ≤ w0.heap.size := by rw [hw0]; simp; omega
  have CL := Lib.hid (len_any B g t e d w0 hwa)
  have C40 : Calls Tryz.prog 64 #[.pointer (some ⟨g, 0, none⟩), .int .u8 40] w0 fun ev w' => ev = .returned .nilIface ∧ WAt B g (t ++ [40]) e d w' ∧ Below B w0 w' ∧ Oth g w0 w' := byte_any B g t e d 40 w0 hwa (by omega) hsz
  have C40H := Lib.hid C40
  have hb0 : w0.heap[w.heap.size]? = some (.cells #[.bool true, .string ⟨#[]⟩, .slice A l.length c] 52 (0, 0)) := by rw [hw0]; exact heap_alloc_at _ _
  have hb0H := Lib.hid hb0
  have hneH := Lib.hid (show w.heap.size ≠ g by obtain ⟨_, p, v, _, hg, _⟩ := h; have := heap_lt hg; omega)
  have htabH := Lib.hid htab
  have hfsH := Lib.hid hfs
  have hc0 : w0.cell? ⟨w.heap.size, 0, none⟩ = some (.bool true) := by rw [cell_of hb0]; rfl
  have hc1 : w0.cell? ⟨w.heap.size, 1, none⟩ = some (.string ⟨#[]⟩) := by rw [cell_of hb0]; rfl
  have hc2 : w0.cell? ⟨w.heap.size, 2, none⟩ = some (.slice A l.length c) := by rw [cell_of hb0]; rfl
  clear hwa hb0 h htab hfs C40
  go_enter Tryz.func40, Tryz.ntmps40
  go_wp2_with fail
  rw [← hw0]
  replace hw0 := Lib.hid hw0
  refine (CL.out).mono ?_
  rintro ev w1 ⟨rfl, rfl⟩
  go_wp2_with fail
  refine (C40H.out).mono ?_
  rintro ev w2 ⟨rfl, hw2, hb2, ho2⟩
  have hbx := Lib.hid (ho2 _ _ _ _ hneH.out (by decide) hb0H.out)
  have hx2 : w2.cell? ⟨w.heap.size, 2, none⟩ = some (.slice A l.length c) := by rw [cell_of hbx.out]; rfl
  replace hbel := Lib.hid (hbel.out.trans hb2)
  replace hoth := Lib.hid (hoth.out.trans ho2)
  replace hw2 := Lib.hid hw2
  clear hb2 ho2 CL C40H
  go_wp2_with fail
  obtain ⟨n, hn⟩ : ∃ n, n = l.length := ⟨_, rfl⟩
  rw [← hn] at hl hx2 ⊢
  replace hn := Lib.hid hn
  go_loopg [80] n (fun g' i W => ∃ k : Nat, g' = n - k ∧ k ≤ n ∧ i = .int .i64 k ∧ WAt B g (t ++ [40] ++ bytess (l.take k)) e d W ∧ Below B w W ∧ Oth g w W)
  case atStart => exact ⟨0, rfl, by omega, rfl, by simpa [bytess] using hw2.out, hbel.out, hoth.out⟩
  case round =>
    clear hw2 hbel hoth hx2 hbx
    obtain ⟨k, hg', hk, rfl, hwk, hbk, hok⟩ := hrel
    subst hg'
    by_cases hkn : k < n
    · have hki : (k : Int) < (n : Int) := by omega
      have hfk := FVs.get (FVs.below hbk l A 0 hfsH.out) k (by rw [← hn.out]; exact hkn)
      rw [Nat.zero_add] at hfk
      obtain ⟨b, o, c0, c1, c2, hA, hbB, h0, h1, h2, hf⟩ := hfk
      subst hA
      have ihk := ih k (by rw [← hn.out]; exact hkn)
      obtain ⟨F', hF'⟩ : ∃ F', F' = l[k]'(by rw [← hn.out]; exact hkn) := ⟨_, rfl⟩
      rw [← hF'] at hf ihk
      have hfr : F'.right = true → True := fun _ => trivial
      replace hF' := Lib.hid hF'
      obtain ⟨fb, ft, fl⟩ := F'
      have hf2 := hf
      unfold FV at hf2
      obtain ⟨A2, cc, hcs, _⟩ := hf2
      simp only [List.cons.injEq, and_true] at hcs
      obtain ⟨rfl, rfl, rfl⟩ := hcs
      generalize hfn : fl.length = fn at *
      replace hfn := Lib.hid hfn
      have hwkH := Lib.hid hwk
      have ihH := Lib.hid ihk
      have hbkH := Lib.hid hbk
      have hokH := Lib.hid hok
      have hfH := Lib.hid hf
      clear hwk hbk hok hf ihk hfr
      have hdk : (F.mk fb ft fl).depth + (deep + 1) ≤ 8 := by
        have := depths_get (l := l) k (by rw [← hn.out]; exact hkn)
        rw [← hF'.out] at this
        omega
      have hbt := bytess_take l k (by rw [← hn.out]; exact hkn)
      rw [← hF'.out] at hbt
      have hlk : (t ++ [40] ++ bytess (l.take k)).length + (F.mk fb ft fl).bytes.length ≤ 65536 := by
        have h1 := bytess_le l (k + 1)
        rw [hbt, List.length_append] at h1
        rw [List.length_append, List.length_append, List.length_singleton]
        omega
      have CP := ihH.out (t ++ [40] ++ bytess (l.take k)) (deep + 1) (.bool fb) (.string ⟨ft.toArray⟩) (.slice A2 fn cc) (wr.alloc (.cells #[.bool fb, .string ⟨ft.toArray⟩, .slice A2 fn cc] 52))
        (FV.below ((Below.refl B wr).alloc (Nat.le_trans hBw hbkH.out.size) _) _ _ hfH.out) (wat_alloc hwkH.out _) (htabH.out.keep (hbkH.out.alloc (Nat.le_trans hBw hbkH.out.size) _) hgB) (by have := hbkH.out.size; simp; omega) hgB hdk hlk
      rw [show ((deep + 1 : Nat) : Int) = (deep : Int) + 1 from by omega] at CP
      replace CP := Lib.hid CP
      replace hbt := Lib.hid hbt
      clear hdk hlk
      go_wp2_with fail
      refine (CP.out).mono ?_
      rintro ev w3 ⟨rfl, hw3, hb3, ho3⟩
      replace hw3 := Lib.hid hw3
      replace hb3 := Lib.hid hb3
      replace ho3 := Lib.hid ho3
      go_wp2_with fail
      go_roundg (n - (k + 1))
      case measure => omega
      case rel => exact ⟨k + 1, rfl, by omega, by go_num, by rw [hbt.out, ← List.append_assoc]; exact hw3.out, (hbkH.out.alloc (Nat.le_trans hBw hbkH.out.size) _).trans hb3.out, (hokH.out.trans (Oth.alloc _ _ _)).trans ho3.out⟩
    · have hkn' : k = n := by omega
      subst hkn'
      have hki : ¬ (k : Int) < (k : Int) := by omega
      rw [List.take_of_length_le (by rw [← hn.out]; exact Nat.le_refl _)] at hwk
      have C41 : Calls Tryz.prog 64 #[.pointer (some ⟨g, 0, none⟩), .int .u8 41] wr fun ev w' => ev = .returned .nilIface ∧ WAt B g (t ++ [40] ++ bytess l ++ [41]) e d w' ∧ Below B wr w' ∧ Oth g wr w' := byte_any B g _ e d 41 wr hwk (by rw [List.length_append, List.length_append, List.length_singleton]; omega) (Nat.le_trans hBw hbk.size)
      replace C41 := Lib.hid C41
      have hbkH := Lib.hid hbk
      have hokH := Lib.hid hok
      clear hwk hbk hok
      go_wp2_with fail
      refine (C41.out).mono ?_
      rintro ev w3 ⟨rfl, hw3, hb3, ho3⟩
      replace hw3 := Lib.hid hw3
      replace hb3 := Lib.hid hb3
      replace ho3 := Lib.hid ho3
      go_wp2_with fail
      go_end0
      exact ⟨rfl, by simpa using hw3.out, hbkH.out.trans hb3.out, hokH.out.trans ho3.out⟩
theorem get_size {l : List F} (k : Nat) (h : k < l.length) : SizeOf.sizeOf l[k] < SizeOf.sizeOf l := List.sizeOf_lt_of_mem (List.getElem_mem h)
theorem put_any (B g : Nat) (e d : Value) : ∀ (n : Nat) (f : F), SizeOf.sizeOf f < n → f.right = true → Puts B g e d f := by
  intro n
  induction n with
  | zero => intro f h; exact absurd h (by omega)
  | succ n ih =>
    rintro ⟨b, x, l⟩ hsz hr t deep c0 c1 c2 w hf h htab hBw hgB hdeep hlen
    unfold FV at hf
    obtain ⟨A, c, hcs, hc, hll, hfs⟩ := hf
    simp only [List.cons.injEq, and_true] at hcs
    obtain ⟨rfl, rfl, rfl⟩ := hcs
    cases b with
    | true =>
      unfold F.right at hr
      simp only [Bool.and_eq_true] at hr
      have hx : x = [] := by simpa using hr.1
      subst hx
      unfold F.bytes F.depth at *
      have hb : (40 :: (bytess l ++ [41])).length = (bytess l).length + 2 := by simp
      rw [hb] at hlen
      refine put_list B g e d l (fun k hk => ih _ ?_ (rights_get hr.2 k hk)) t deep A c w hll hfs h htab hBw hgB hdeep hlen
      have := get_size k hk
      have h2 : SizeOf.sizeOf (F.mk true [] l) = 1 + SizeOf.sizeOf true + SizeOf.sizeOf ([] : List UInt8) + SizeOf.sizeOf l := by rw [F.mk.sizeOf_spec]
      omega
    | false =>
      unfold F.right at hr
      have hl0 : l = [] := by simpa using hr
      subst hl0
      have eF : (txt (⟨x.toArray⟩ : ByteArray).data.toList) = .mk false x [] := rfl
      have := put_text B g t e d ⟨x.toArray⟩ deep A c w h htab (by omega) (by rw [eF]; exact hlen) hBw
      rw [eF] at this
      exact this
end Go.Proofs.YtbefkoljcacpcaaGreatDoor.Tm
set_option linter.unusedVariables false
set_option linter.unusedSimpArgs false
namespace Go.Proofs.YtbefkoljcacpcaaGreatDoor.Tm
open Go Go.RowKit Go.Proofs.YtbefkoljcacpcaaGreatDoor.B Go.Proofs.YtbefkoljcacpcaaGreatDoor.Bld
theorem form_ne (f : F) (h : f.right = true) : f.bytes ≠ [] := by
  obtain ⟨c, r, e, _⟩ := form_head f h
  rw [e]; simp
set_option maxRecDepth 100000 in
set_option maxHeartbeats 2000000 in
theorem write_any (f : F) (c0 c1 c2 : Value) (w : World) (hf : FV w.heap.size w f [c0, c1, c2]) (hr : f.right = true) (hd : f.depth ≤ 8) (hlen : f.bytes.length ≤ 65536) (htab : Tab w) (hgB : 1 < w.heap.size) :
    Calls Tryz.prog 21 #[.agg #[c0, c1, c2]] w fun ev w' => ev = .returned (.tuple #[.string ⟨f.bytes.toArray⟩, .nilIface]) ∧ Below w.heap.size w w' := by
  obtain ⟨B, hB⟩ : ∃ B, B = w.heap.size := ⟨_, rfl⟩
  rw [← hB] at hf hgB ⊢
  obtain ⟨w1, hw1⟩ : ∃ w1, w1 = w.alloc (.cells #[c0, c1, c2] 52) := ⟨_, rfl⟩
  obtain ⟨w2, hw2⟩ : ∃ w2, w2 = w1.alloc (.cells #[.pointer none, .slice none 0 0, .nilIface, .bool false] 93) := ⟨_, rfl⟩
  have hs1 : w1.heap.size = B + 1 := by rw [hw1, hB]; simp
  have hs2 : w2.heap.size = B + 2 := by rw [hw2]; simp [hs1]
  have hb1 : Below B w w1 := by rw [hw1]; exact (Below.refl _ _).alloc (by omega) _
  have hb2 : Below B w w2 := by rw [hw2]; exact hb1.alloc (by omega) _
  have hg : w2.heap[B + 1]? = some (.cells #[.pointer none, .slice none 0 0, .nilIface, .bool false] 93 (0, 0)) := by
    rw [hw2, ← hs1]; exact heap_alloc_at _ _
  have hat : WAt B (B + 1) [] .nilIface (.bool false) w2 := ⟨by omega, _, _, .inl rfl, hg, by
    refine ⟨by simp [bc], .inl ⟨rfl, rfl⟩⟩⟩
  have hP := put_any B (B + 1) .nilIface (.bool false) _ f (Nat.lt_succ_self _) hr [] 0 c0 c1 c2 w2 (FV.below hb2 _ _ hf) hat (htab.keep hb2 hgB) (by omega) hgB (by omega) (by simpa using hlen)
  rw [List.nil_append] at hP
  replace hP := Lib.hid hP
  have hne := form_ne f hr
  have hb2H := Lib.hid hb2
  have hs2H := Lib.hid hs2
  have h1 : w2.heap[B]? = some (.cells #[c0, c1, c2] 52 (0, 0)) := by
    rw [hw2, heap_alloc_lt _ _ _ (by omega), hw1, hB]; exact heap_alloc_at _ _
  have hc0 : w2.cell? ⟨B, 0, none⟩ = some c0 := by rw [cell_of h1]; rfl
  have hc1 : w2.cell? ⟨B, 1, none⟩ = some c1 := by rw [cell_of h1]; rfl
  have hc2 : w2.cell? ⟨B, 2, none⟩ = some c2 := by rw [cell_of h1]; rfl
  generalize hbs : f.bytes = bs at *
  obtain ⟨fb, ft, fl⟩ := f
  unfold FV at hf
  obtain ⟨A, c, hcs, _⟩ := hf
  simp only [List.cons.injEq, and_true] at hcs
  obtain ⟨rfl, rfl, rfl⟩ := hcs
  have hlB : ¬ (65536 : Int) < (bs.length : Int) := by omega
  clear hat hg h1 hb1 hb2 hbs hr hd htab
  go_enter Tryz.func21, Tryz.ntmps21
  go_wp2_with fail
  rw [← hB, ← hw1]
  try rw [hs1]
  rw [← hw2]
  replace hB := Lib.hid hB
  replace hw1 := Lib.hid hw1
  replace hw2 := Lib.hid hw2
  clear hs1 hs2
  go_wp2_with fail
  refine (hP.out).mono ?_
  rintro ev w3 ⟨rfl, hw3, hb3, ho3⟩
  have hg3 := hw3
  obtain ⟨_, p, v, _, hg3, _⟩ := hg3
  have k2 : w3.cell? ⟨B + 1, 2, none⟩ = some .nilIface := by rw [cell_of hg3]; rfl
  have k3 : w3.cell? ⟨B + 1, 3, none⟩ = some (.bool false) := by rw [cell_of hg3]; rfl
  have hb3H := Lib.hid (hb2H.out.trans hb3)
  have hsz3 : B ≤ w3.heap.size := by have := hb3.size; have := hs2H.out; omega
  have CL := Lib.hid (fun (W : World) (hW : Below w3.heap.size w3 W) => len_any B (B + 1) bs .nilIface (.bool false) W (wat_tch hw3 hW))
  have CT := Lib.hid (fun (W : World) (hW : Below w3.heap.size w3 W) => text_any B (B + 1) bs .nilIface (.bool false) W (wat_tch hw3 hW) hne)
  have hw3H := Lib.hid hw3
  clear hw3 hb3 hg3 hP
  go_wp2_with fail
  refine (CL.out w3 (Below.refl _ _)).mono ?_
  rintro ev w4 ⟨rfl, rfl⟩
  go_wp2_with fail
  refine (CT.out _ (Below.refl _ _)).mono ?_
  rintro ev w5 ⟨rfl, hb5⟩
  replace hb5 := Lib.hid (hb3H.out.trans hb5)
  go_wp2_with fail
  go_ret2
  exact ⟨rfl, hb5.out⟩
end Go.Proofs.YtbefkoljcacpcaaGreatDoor.Tm
set_option linter.unusedVariables false
set_option linter.unusedSimpArgs false
namespace Go.Proofs.YtbefkoljcacpcaaGreatDoor.Tm
open Go Go.RowKit Go.Proofs.YtbefkoljcacpcaaGreatDoor.B Go.Proofs.YtbefkoljcacpcaaGreatDoor.Bld
theorem set3 {w : World} {g : Nat} {a b c x y z : Value} {t : TypeId} (h : w.heap[g]? = some (.cells #[a, b, c] t (0, 0))) :
    (((w.setCell ⟨g, 0, none⟩ x).setCell ⟨g, 1, none⟩ y).setCell ⟨g, 2, none⟩ z).heap[g]? = some (.cells #[x, y, z] t (0, 0)) := by
  have h1 := heap_set w g 0 x _ t _ h
  have h2 := heap_set _ g 1 y _ t _ h1
  have h3 := heap_set _ g 2 z _ t _ h2
  exact h3
def vtext (s : ByteArray) : Value := .agg #[.bool false, .string s, .slice none 0 0]
def vlist (a : Value) : Value := .agg #[.bool true, .string ⟨#[]⟩, a]
set_option maxRecDepth 100000 in
theorem text_c (s : ByteArray) (w : World) : Calls Tryz.prog 20 #[.string s] w fun ev w' => ev = .returned (vtext s) ∧ Below w.heap.size w w' := by
  go_enter Tryz.func20, Tryz.ntmps20
  go_wp2_with fail
  go_returns
  exact ⟨rfl, (Below.refl _ _).alloc (Nat.le_refl _) _⟩
set_option maxRecDepth 100000 in
theorem list_c (A : Option Addr) (n c : Nat) (w : World) : Calls Tryz.prog 17 #[.slice A n c] w fun ev w' => ev = .returned (vlist (.slice A n c)) ∧ Below w.heap.size w w' := by
  go_enter Tryz.func17, Tryz.ntmps17
  go_wp2_with fail
  go_returns
  exact ⟨rfl, (Below.refl _ _).alloc (Nat.le_refl _) _⟩
set_option maxRecDepth 100000 in
theorem rtext_c (s : ByteArray) (w : World) : Calls Tryz.prog 29 #[.string s] w fun ev w' => ev = .returned (vtext s) ∧ Below w.heap.size w w' := by
  go_enter Tryz.func29, Tryz.ntmps29
  go_wp2_with fail
  go_returns
  exact ⟨rfl, (Below.refl _ _).alloc (Nat.le_refl _) _⟩
set_option maxRecDepth 100000 in
theorem rlist_c (A : Option Addr) (n c : Nat) (w : World) : Calls Tryz.prog 51 #[.slice A n c] w fun ev w' => ev = .returned (vlist (.slice A n c)) ∧ Below w.heap.size w w' := by
  go_enter Tryz.func51, Tryz.ntmps51
  go_wp2_with fail
  go_returns
  exact ⟨rfl, (Below.refl _ _).alloc (Nat.le_refl _) _⟩
def num (n : Nat) : ByteArray := ⟨(Lib.decDigits n).toArray⟩
set_option maxRecDepth 100000 in
theorem num_c (n : Nat) (hn : n ≤ 9223372036854775807) (w : World) (htab : Tab w) : Calls Tryz.prog 19 #[.int .i64 n] w fun ev w' => ev = .returned (vtext (num n)) ∧ Below w.heap.size w w' := by
  obtain ⟨w0, hw0⟩ : ∃ w0, w0 = w.alloc (.cells #[.bool false, .string ⟨#[]⟩, .slice none 0 0] 52) := ⟨_, rfl⟩
  have hb0 : Below w.heap.size w w0 := by rw [hw0]; exact (Below.refl _ _).alloc (Nat.le_refl _) _
  have hg : w0.heap[w.heap.size]? = some (.cells #[.bool false, .string ⟨#[]⟩, .slice none 0 0] 52 (0, 0)) := by rw [hw0]; exact heap_alloc_at _ _
  have CI := Lib.hid (itoa_any n hn w0 (htab.below hb0 (Nat.le_refl _)))
  have hgH := Lib.hid hg
  have hb0H := Lib.hid hb0
  clear hg hb0
  go_enter Tryz.func19, Tryz.ntmps19
  go_wp2_with fail
  rw [← hw0]
  replace hw0 := Lib.hid hw0
  refine (CI.out).mono ?_
  rintro ev w1 ⟨rfl, hb1⟩
  have hb1H := Lib.hid hb1
  clear hb1
  go_wp2_with fail
  refine (text_c _ w1).mono ?_
  rintro ev w2 ⟨rfl, hb2⟩
  have hg2 : w2.heap[w.heap.size]? = some (.cells #[.bool false, .string ⟨#[]⟩, .slice none 0 0] 52 (0, 0)) := by
    have hs := heap_lt hgH.out
    rw [hb2.block _ (Nat.lt_of_lt_of_le hs hb1H.out.size), hb1H.out.block _ hs]
    exact hgH.out
  have hbb := Lib.hid (hb0H.out.trans ((hb1H.out.mono (Nat.le_of_lt (heap_lt hgH.out))).trans (hb2.mono (Nat.le_trans (Nat.le_of_lt (heap_lt hgH.out)) hb1H.out.size))))
  unfold vtext
  have k0 : w2.cell? ⟨w.heap.size, 0, none⟩ = some (.bool false) := by rw [cell_of hg2]; rfl
  have k1 : w2.cell? ⟨w.heap.size, 1, none⟩ = some (.string ⟨#[]⟩) := by rw [cell_of hg2]; rfl
  have k2 : w2.cell? ⟨w.heap.size, 2, none⟩ = some (.slice none 0 0) := by rw [cell_of hg2]; rfl
  have hsh : w2.shape? w.heap.size = some (52, 3) := by simp [World.shape?, hg2]
  have hfz := fr_of hg2
  clear hb2
  go_wp2_with fail
  (try simp only [Exit.inBlock, Exit.then])
  refine bodyPost_ret (results_cell_row rfl _ _ w.heap.size 52 #[.bool false, .string (num n), .slice none 0 0] (0, 0) _ rfl (set3 hg2) Tryz.underlying52 rfl (by kernel_rfl)) rfl ⟨rfl, ?_⟩
  exact ((hbb.out.setCell (Nat.le_refl _) _).setCell (Nat.le_refl _) _).setCell (Nat.le_refl _) _
end Go.Proofs.YtbefkoljcacpcaaGreatDoor.Tm
set_option linter.unusedVariables false
set_option linter.unusedSimpArgs false
namespace Go.Proofs.YtbefkoljcacpcaaGreatDoor.Wi
open Go Go.RowKit Go.Proofs.YtbefkoljcacpcaaGreatDoor.B Go.Proofs.YtbefkoljcacpcaaGreatDoor.Bld Go.Proofs.YtbefkoljcacpcaaGreatDoor.Tm
def numRow (g : Nat) : Array Value := #[.pointer (some ⟨g, 0, none⟩), .int .i64 7, .pointer (some ⟨g, 1, none⟩), .int .i64 7, .pointer (some ⟨g, 2, none⟩), .int .i64 4, .pointer (some ⟨g, 3, none⟩), .int .i64 2147483647, .pointer (some ⟨g, 4, none⟩), .int .i64 2147483647, .pointer (some ⟨g, 5, none⟩), .int .i64 2147483647]
set_option maxRecDepth 100000 in
set_option maxHeartbeats 4000000 in
theorem numbers_c (g : Nat) (w : World) : Calls Tryz.prog 18 #[.pointer (some ⟨g, 0, none⟩)] w
    fun ev w' => ∃ A t, ev = .returned (.slice (some ⟨A, 0, none⟩) 6 6) ∧ w.heap.size ≤ A ∧ w'.heap[A]? = some (.cells (numRow g) t (0, 0)) ∧ Below w.heap.size w w' := by
  go_enter Tryz.func18, Tryz.ntmps18
  go_wp2_with fail
  go_region
  all_goals (go_wp2_with fail; go_ret; exact ⟨_, _, rfl, Nat.le_refl _, heap_alloc_at _ _, ((Below.refl _ _).alloc (Nat.le_refl _) _).drew⟩)
end Go.Proofs.YtbefkoljcacpcaaGreatDoor.Wi
set_option linter.unusedVariables false
set_option linter.unusedSimpArgs false
namespace Go.Proofs.YtbefkoljcacpcaaGreatDoor.Sha
open Go.RowKit Go.Proofs.YtbefkoljcacpcaaGreatDoor.B
abbrev W := BitVec 32
def nv (x : W) : Int := (x.toNat : Int)
theorem nv_of (n : Nat) (h : n < 4294967296) : nv (BitVec.ofNat 32 n) = (n : Int) := by
  unfold nv; rw [BitVec.toNat_ofNat, Nat.mod_eq_of_lt (by simpa using h)]
theorem nv_xor (a b : W) : bits .xor .u32 (nv a) (nv b) = nv (a ^^^ b) := by
  unfold nv; rw [u32_xor_nat _ _ (by have := a.isLt; omega) (by have := b.isLt; omega), BitVec.toNat_xor]
theorem nv_and (a b : W) : bits .and .u32 (nv a) (nv b) = nv (a &&& b) := by
  unfold nv; rw [u32_and_nat _ _ (by have := a.isLt; omega) (by have := b.isLt; omega), BitVec.toNat_and]
theorem nv_or (a b : W) : bits .or .u32 (nv a) (nv b) = nv (a ||| b) := by
  unfold nv; rw [u32_or_nat _ _ (by have := a.isLt; omega) (by have := b.isLt; omega), BitVec.toNat_or]
theorem nv_add (a b : W) : (nv a + nv b) % 4294967296 = nv (a + b) := by
  unfold nv; rw [BitVec.toNat_add]; omega
theorem nv_addw (a b : W) : IntKind.u32.wrap (nv a + nv b) = nv (a + b) := by rw [IntKind.wrap_u32, nv_add]
theorem nv_shr (a : W) (k : Nat) : nv a / 2 ^ k = nv (a >>> k) := by
  unfold nv
  rw [BitVec.toNat_ushiftRight, Nat.shiftRight_eq_div_pow]
  simp
theorem nv_shl (a : W) (k : Nat) : (nv a * 2 ^ k) % 4294967296 = nv (a <<< k) := by
  unfold nv
  rw [BitVec.toNat_shiftLeft, Nat.shiftLeft_eq]
  simp
theorem nv_byte (a : W) (c : UInt8) : bits .or .u32 (nv a) (c.toNat : Int) = nv (a ||| BitVec.ofNat 32 c.toNat) := by
  have := c.toNat_lt
  rw [← nv_or, nv_of _ (by omega)]
def ror (x : W) (n : Nat) : W := (x >>> n) ||| (x <<< (32 - n))
def s0 (x : W) : W := ror x 7 ^^^ ror x 18 ^^^ (x >>> 3)
def s1 (x : W) : W := ror x 17 ^^^ ror x 19 ^^^ (x >>> 10)
def S0 (a : W) : W := ror a 2 ^^^ ror a 13 ^^^ ror a 22
def S1 (e : W) : W := ror e 6 ^^^ ror e 11 ^^^ ror e 25
def ch (e f g : W) : W := (e &&& f) ^^^ (~~~e &&& g)
def maj (a b c : W) : W := (a &&& b) ^^^ (a &&& c) ^^^ (b &&& c)
theorem ch_or (e f g : W) : (e &&& f) ||| (~~~e &&& g) = ch e f g := by
  unfold ch
  apply BitVec.eq_of_getLsbD_eq
  intro i hi
  simp only [BitVec.getLsbD_or, BitVec.getLsbD_and, BitVec.getLsbD_xor, BitVec.getLsbD_not, hi, decide_true, Bool.true_and]
  cases e.getLsbD i <;> cases f.getLsbD i <;> cases g.getLsbD i <;> rfl
theorem maj_or (a b c : W) : ((a &&& b) ||| (a &&& c)) ||| (b &&& c) = maj a b c := by
  unfold maj
  apply BitVec.eq_of_getLsbD_eq
  intro i hi
  simp only [BitVec.getLsbD_or, BitVec.getLsbD_and, BitVec.getLsbD_xor]
  cases a.getLsbD i <;> cases b.getLsbD i <;> cases c.getLsbD i <;> rfl
def nextW (l : List W) : W := l.getD (l.length - 16) 0 + s0 (l.getD (l.length - 15) 0) + l.getD (l.length - 7) 0 + s1 (l.getD (l.length - 2) 0)
def sched (m : List W) : Nat → List W
  | 0 => m
  | n + 1 => sched m n ++ [nextW (sched m n)]
theorem sched_length (m : List W) (n : Nat) : (sched m n).length = m.length + n := by
  induction n with
  | zero => rfl
  | succ n ih => simp [sched, ih]; omega
def roundW (v : List W) (k w : W) : List W :=
  let one := v.getD 7 0 + S1 (v.getD 4 0) + ch (v.getD 4 0) (v.getD 5 0) (v.getD 6 0) + k + w
  let two := S0 (v.getD 0 0) + maj (v.getD 0 0) (v.getD 1 0) (v.getD 2 0)
  [one + two, v.getD 0 0, v.getD 1 0, v.getD 2 0, v.getD 3 0 + one, v.getD 4 0, v.getD 5 0, v.getD 6 0]
def rounds (ks ws : List W) (h : List W) : Nat → List W
  | 0 => h
  | t + 1 => roundW (rounds ks ws h t) (ks.getD t 0) (ws.getD t 0)
def compress (ks : List W) (h m : List W) : List W := (List.range 8).map fun i => h.getD i 0 + (rounds ks (sched m 48) h 64).getD i 0
def word (b : List UInt8) (t : Nat) : W :=
  (((BitVec.ofNat 32 (b.getD (4 * t) 0).toNat <<< 8 ||| BitVec.ofNat 32 (b.getD (4 * t + 1) 0).toNat) <<< 8 ||| BitVec.ofNat 32 (b.getD (4 * t + 2) 0).toNat) <<< 8) ||| BitVec.ofNat 32 (b.getD (4 * t + 3) 0).toNat
def words (b : List UInt8) : List W := (List.range 16).map (word b)
def runs (ks : List W) (h : List W) (b : List UInt8) : List W := if _h : 64 ≤ b.length then runs ks (compress ks h (words (b.take 64))) (b.drop 64) else h
termination_by b.length
decreasing_by simp; omega
theorem runs_short (ks h : List W) (b : List UInt8) (hb : b.length < 64) : runs ks h b = h := by
  rw [runs, dif_neg (by omega)]
theorem runs_long (ks h : List W) (b : List UInt8) (hb : 64 ≤ b.length) : runs ks h b = runs ks (compress ks h (words (b.take 64))) (b.drop 64) := by
  rw [runs, dif_pos hb]
def be8 (n : Nat) : List UInt8 := (List.range 8).map fun j => UInt8.ofNat (n / 2 ^ (8 * (7 - j)))
def padding (n : Nat) : List UInt8 := 128 :: List.replicate ((119 - n % 64) % 64) 0 ++ be8 (n * 8)
def ofWord (x : W) : List UInt8 := [UInt8.ofNat (x >>> 24).toNat, UInt8.ofNat (x >>> 16).toNat, UInt8.ofNat (x >>> 8).toNat, UInt8.ofNat x.toNat]
def shaL (ks h : List W) (s : List UInt8) : List UInt8 := (runs ks h (s ++ padding s.length)).flatMap ofWord
def sha (ks h : List W) (s : ByteArray) : ByteArray := ⟨(shaL ks h s.data.toList).toArray⟩
theorem compress_length (ks h m : List W) : (compress ks h m).length = 8 := by simp [compress]
theorem runs_length (ks : List W) : ∀ (n : Nat) (h : List W) (b : List UInt8), b.length ≤ n → h.length = 8 → (runs ks h b).length = 8
  | n, h, b, hn, hh => by
    by_cases e : 64 ≤ b.length
    · rw [runs_long ks h b e]
      cases n with
      | zero => omega
      | succ n => exact runs_length ks n _ _ (by simp; omega) (compress_length _ _ _)
    · rw [runs_short ks h b (by omega)]; exact hh
end Go.Proofs.YtbefkoljcacpcaaGreatDoor.Sha
