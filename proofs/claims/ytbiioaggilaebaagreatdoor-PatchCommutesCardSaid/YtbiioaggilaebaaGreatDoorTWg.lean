/- What LawPatchCommutes lean on, part g of 29: the texts TmL, Lat, Rd, ShaT, Bld, TmK, PaE, Rdg. -/
import Derived.Test.YtbiioaggilaebaaGreatDoorTWb
import Derived.Test.YtbiioaggilaebaaGreatDoorTWf
import Derived.ProofKit
import Derived.SliceStrings
import Derived.SizedLaws
import Derived.Test.YtbiioaggilaebaaGreatDoorProg
import Derived.Lib.Builder
import Derived.Lib.AppendStr
import Derived.Lib.UnsafeStr
import Derived.ChangeAlike
import Derived.Laws.Externs
import Derived.Laws.OwnMore
import Derived.Deep.AppendLies
import Derived.RegionTactic
import Derived.RowKit
import Derived.Lib.AtoiAllCases
import Derived.Lib.ItoaMem
import Derived.Test.YtbiioaggilaebaaGreatDoorChecked
import Derived.Laws.StructEq
import Derived.WalkKit
import Derived.StillTail
import Derived.Deep.RegionHeld3
set_option linter.unusedVariables false
namespace Go.Proofs.YtbiioaggilaebaaGreatDoor.Tm
open Go Go.Lib
def isD (c : UInt8) : Prop := 48 ≤ c.toNat ∧ c.toNat ≤ 57
theorem val_le_append : ∀ (b a : List UInt8), val a ≤ val (a ++ b)
  | [], a => by simp
  | c :: b, a => by
    have h := val_le_append b (a ++ [c])
    rw [List.append_assoc] at h
    rw [val_snoc] at h
    have e : [c] ++ b = c :: b := rfl
    rw [e] at h
    omega
theorem dec_head_zero (m : Nat) (r : List UInt8) (h : decDigits m = 48 :: r) : m = 0 := by
  induction m using Nat.strongRecOn generalizing r with
  | _ m ih =>
    rw [decDigits] at h
    split at h
    · rename_i hlt
      injection h with h1 _
      have h2 := congrArg UInt8.toNat h1
      rw [UInt8.toNat_ofNat'] at h2
      have : (48 : UInt8).toNat = 48 := rfl
      omega
    · have hne := dec_ne (m / 10)
      obtain ⟨c, q, hq⟩ := List.exists_cons_of_ne_nil hne
      rw [hq, List.cons_append] at h
      injection h with h1 _
      have := ih (m / 10) (by omega) q (by rw [hq, h1])
      omega
theorem digs_at {s : List UInt8} {m k : Nat} {x : List UInt8} (h : s = decDigits m ++ 58 :: x) (hk : ∀ j, j < k → ∀ c, s[j]? = some c → isD c) (hks : k ≤ s.length) : k ≤ (decDigits m).length := by
  by_cases hc : k ≤ (decDigits m).length
  · exact hc
  · exfalso
    have h1 := hk (decDigits m).length (by omega) 58 (by rw [h, List.getElem?_append_right (Nat.le_refl _), Nat.sub_self]; rfl)
    unfold isD at h1
    simp at h1
theorem digs_pre {s : List UInt8} {m k : Nat} {x : List UInt8} (h : s = decDigits m ++ 58 :: x) (hk : k ≤ (decDigits m).length) : s.take k = (decDigits m).take k := by
  rw [h, List.take_append_of_le_length hk]
theorem digs_val {s : List UInt8} {m k : Nat} {x : List UInt8} (h : s = decDigits m ++ 58 :: x) (hk : k ≤ (decDigits m).length) : val (s.take k) ≤ m := by
  rw [digs_pre h hk]
  have := val_le_append ((decDigits m).drop k) ((decDigits m).take k)
  rw [List.take_append_drop, val_dec] at this
  exact this
theorem digs_end {s : List UInt8} {m k : Nat} {x : List UInt8} (h : s = decDigits m ++ 58 :: x) (hk : k ≤ (decDigits m).length) (c : UInt8) (hc : s[k]? = some c) (hn : ¬ isD c) :
    c = 58 ∧ 0 < k ∧ s.take k = decDigits m ∧ s.drop (k + 1) = x := by
  have e : k = (decDigits m).length := by
    by_cases e : k = (decDigits m).length
    · exact e
    · exfalso
      have hlt : k < (decDigits m).length := by omega
      rw [h, List.getElem?_append_left hlt, List.getElem?_eq_getElem hlt] at hc
      exact hn (dec_digit m c (by rw [← Option.some.inj hc]; exact List.getElem_mem hlt))
  subst e
  rw [h, List.getElem?_append_right (Nat.le_refl _), Nat.sub_self] at hc
  refine ⟨(Option.some.inj hc).symm, List.length_pos_iff.2 (dec_ne m), ?_, ?_⟩
  · rw [h, List.take_left']
    rfl
  · rw [h, List.drop_append, List.drop_of_length_le (by omega), Nat.add_sub_cancel_left]
    rfl
theorem digs_full {s : List UInt8} {m k : Nat} {x : List UInt8} (h : s = decDigits m ++ 58 :: x) (hk : k ≤ (decDigits m).length) : k < s.length := by
  rw [h, List.length_append, List.length_cons]
  omega
theorem digs_zero {s : List UInt8} {m : Nat} {x : List UInt8} (h : s = decDigits m ++ 58 :: x) (h0 : s[0]? = some 48) : s[1]? = some 58 := by
  obtain ⟨c, q, hq⟩ := List.exists_cons_of_ne_nil (dec_ne m)
  have hm : m = 0 := by
    refine dec_head_zero m q ?_
    rw [h, hq] at h0
    simp only [List.cons_append, List.getElem?_cons_zero, Option.some.injEq] at h0
    rw [hq, h0]
  subst hm
  rw [h]
  have : decDigits 0 = [48] := by rw [decDigits]; rfl
  rw [this]
  rfl
def LenSpec (s : List UInt8) (n : Int) (ok : Bool) (r : List UInt8) : Prop :=
  r.length ≤ s.length ∧ (ok = true → 0 ≤ n ∧ n ≤ r.length ∧ r.length < s.length) ∧
  ∀ t x, t.length ≤ 65536 → s = decDigits t.length ++ 58 :: (t ++ x) → ok = true ∧ n = t.length ∧ r = t ++ x
def LenInv (s : List UInt8) (k n : Nat) : Prop := k ≤ s.length ∧ n = val (s.take k) ∧ n ≤ 65536 ∧ ∀ j, j < k → ∀ c, s[j]? = some c → isD c
theorem lenInv_zero (s : List UInt8) : LenInv s 0 0 := ⟨Nat.zero_le _, rfl, by omega, fun j hj => absurd hj (by omega)⟩
theorem take_at {s : List UInt8} {k : Nat} {c : UInt8} (h : s[k]? = some c) : s.take (k + 1) = s.take k ++ [c] := by rw [List.take_add_one, h]; rfl
theorem lenInv_step {s : List UInt8} {k n : Nat} {c : UInt8} (h : LenInv s k n) (hc : s[k]? = some c) (hd : isD c) (hn : 10 * n + (c.toNat - 48) ≤ 65536) : LenInv s (k + 1) (10 * n + (c.toNat - 48)) := by
  obtain ⟨h1, h2, h3, h4⟩ := h
  have hk : k < s.length := by
    by_cases hk : k < s.length
    · exact hk
    · rw [List.getElem?_eq_none (by omega)] at hc; cases hc
  refine ⟨by omega, by rw [take_at hc, val_snoc, ← h2], hn, fun j hj d hdj => ?_⟩
  by_cases e : j = k
  · subst e; rw [hc] at hdj; rw [← Option.some.inj hdj]; exact hd
  · exact h4 j (by omega) d hdj
theorem len_big {s : List UInt8} {k n : Nat} {c : UInt8} (h : LenInv s k n) (hc : s[k]? = some c) (hd : isD c) (hn : 65536 < 10 * n + (c.toNat - 48)) (v : Int) : LenSpec s v false s := by
  obtain ⟨h1, h2, h3, h4⟩ := h
  have hk : k < s.length := by
    by_cases hk : k < s.length
    · exact hk
    · rw [List.getElem?_eq_none (by omega)] at hc; cases hc
  refine ⟨Nat.le_refl _, fun h => (by cases h), fun t x ht e => ?_⟩
  exfalso
  have hall : ∀ j, j < k + 1 → ∀ c, s[j]? = some c → isD c := by
    intro j hj d hdj
    by_cases e : j = k
    · subst e; rw [hc] at hdj; rw [← Option.some.inj hdj]; exact hd
    · exact h4 j (by omega) d hdj
  have := digs_val e (digs_at e hall (by omega))
  rw [take_at hc, val_snoc, ← h2] at this
  omega
theorem len_zero {s : List UInt8} (h0 : s[0]? = some 48) (h1 : s[1]? ≠ some 58) (v : Int) : LenSpec s v false s :=
  ⟨Nat.le_refl _, fun h => (by cases h), fun t x ht e => absurd (digs_zero e h0) h1⟩
theorem len_none {s : List UInt8} {k n : Nat} {c : UInt8} (h : LenInv s k n) (hc : s[k]? = some c) (hd : ¬ isD c) (hn : ¬ (c = 58 ∧ 0 < k)) (v : Int) : LenSpec s v false s := by
  obtain ⟨h1, h2, h3, h4⟩ := h
  refine ⟨Nat.le_refl _, fun h => (by cases h), fun t x ht e => ?_⟩
  exfalso
  obtain ⟨e1, e2, _⟩ := digs_end e (digs_at e h4 h1) c hc hd
  exact hn ⟨e1, e2⟩
theorem len_over {s : List UInt8} {n : Nat} (h : LenInv s s.length n) (v : Int) : LenSpec s v false s := by
  obtain ⟨h1, h2, h3, h4⟩ := h
  refine ⟨Nat.le_refl _, fun h => (by cases h), fun t x ht e => ?_⟩
  exfalso
  have := digs_full e (digs_at e h4 h1)
  omega
theorem len_good {s : List UInt8} {k n : Nat} (h : LenInv s k n) (hc : s[k]? = some 58) : LenSpec s n (decide (n ≤ (s.drop (k + 1)).length)) (s.drop (k + 1)) := by
  obtain ⟨h1, h2, h3, h4⟩ := h
  have hk : k < s.length := by
    by_cases hk : k < s.length
    · exact hk
    · rw [List.getElem?_eq_none (by omega)] at hc; cases hc
  refine ⟨by rw [List.length_drop]; omega, fun h => ⟨by omega, by have := of_decide_eq_true h; omega, by rw [List.length_drop]; omega⟩, fun t x ht e => ?_⟩
  obtain ⟨_, _, e3, e4⟩ := digs_end e (digs_at e h4 h1) 58 hc (by unfold isD; simp)
  rw [e3, val_dec] at h2
  rw [e4]
  refine ⟨decide_eq_true (by rw [List.length_append]; omega), by omega, rfl⟩
end Go.Proofs.YtbiioaggilaebaaGreatDoor.Tm
set_option linter.unusedVariables false
set_option linter.unusedSimpArgs false
namespace Go.Proofs.YtbiioaggilaebaaGreatDoor.B
open Go Go.RowKit
structure Lat (w : World) where
  val : World
  below : Below w.heap.size w val
theorem Lat.cell {w : World} {p : Addr} {v : Value} (h : w.cell? p = some v) (x : Lat w) : x.val.cell? p = some v := (x.below.cell (World.block_lt_of_cell? w p h)).trans h
def Lat.drew (w : World) : Lat w := ⟨w.drew, (Below.refl _ _).drew⟩
instance (w : World) : Nonempty (Lat w) := ⟨Lat.drew w⟩
theorem wp_region_lat {P : Program} {id : Nat} {Q : Exit → Act → World → Prop} {a : Act} {w : World} {l : List Oper} (hm : P.follows .mixedOrders = true) (hB : Region.lexB .any l.toArray = true)
    (h : wpQuiet P l.toArray (fun w' => ∃ x : Lat w, w' = x.val) (fun a' => ∀ w', (∃ x : Lat w, w' = x.val) → Q .normal a' w') l a) : (Code.region id l.toArray true).wp P Q a w :=
  wp_region_quiet (C := fun w' => ∃ x : Lat w, w' = x.val) hm hB ⟨Lat.drew w, rfl⟩ (by simpa using h)
theorem lat_of {P : Program} {f : FuncId} {args : Array Value} {w : World} {v : Value} {x : Lat w}
    (h : Calls P f args x.val fun e w' => e = .returned v ∧ Below x.val.heap.size x.val w') : Calls P f args x.val fun e w'' => e = .returned v ∧ ∃ y : Lat w, w'' = y.val :=
  h.mono fun _ w' ⟨he, hb⟩ => ⟨he, ⟨w', x.below.trans (hb.mono x.below.size)⟩, rfl⟩
end Go.Proofs.YtbiioaggilaebaaGreatDoor.B
set_option linter.unusedVariables false
set_option linter.unusedSimpArgs false
namespace Go.Proofs.YtbiioaggilaebaaGreatDoor.Rd
open Go.RowKit Go.WideShapes Go.ChangeShapes
def Keeps (w w' : World) : Prop := ∀ a v, w.cell? a = some v → w'.cell? a = some v
theorem Keeps.refl (w : World) : Keeps w w := fun _ _ h => h
theorem Keeps.trans {a b c : World} (h : Keeps a b) (k : Keeps b c) : Keeps a c := fun x v hx => k x v (h x v hx)
theorem Keeps.of_below {w w' : World} (h : Below w.heap.size w w') : Keeps w w' := fun a v hc => (h.cell (World.block_lt_of_cell? w a hc)).trans hc
theorem Keeps.alloc (w : World) (o : Obj) : Keeps w (w.alloc o) := fun a v hc => (World.cell?_alloc_lt _ _ _ (World.block_lt_of_cell? w a hc)).trans hc
theorem Keeps.drew (w : World) : Keeps w w.drew := fun _ _ h => h
abbrev Rel (α : Type) := World → List Value → α → Prop
def RInt (k : IntKind) : Rel Int := fun _ cs x => cs = [.int k x] ∧ (Lit.int k x).wf = true
def RStr : Rel ByteArray := fun _ cs x => cs = [.string x] ∧ x.size ≤ 140737488351232
def RSl {α : Type} (size : Nat) (R : Rel α) : Rel (List α) := fun w cs xs =>
  ∃ A cap, cs = [.slice A xs.length cap] ∧ xs.length ≤ cap ∧ cap ≤ 140737488351232 ∧
    (0 < xs.length → ∃ b off, A = some ⟨b, off, none⟩ ∧ ∀ i (h : i < xs.length), ∃ es : List Value, es.length = size ∧ (∀ j, j < size → w.cell? ⟨b, off + i * size + j, none⟩ = es[j]?) ∧ R w es xs[i])
theorem choose_list {α : Type} {p : Nat → α → Prop} : ∀ (n : Nat), (∀ i, i < n → ∃ x, p i x) → ∃ xs : List α, xs.length = n ∧ ∀ i (h : i < xs.length), p i xs[i]
  | 0, _ => ⟨[], rfl, fun i h => absurd h (Nat.not_lt_zero _)⟩
  | n + 1, h => by
    obtain ⟨xs, hl, hx⟩ := choose_list n (fun i hi => h i (by omega))
    obtain ⟨y, hy⟩ := h n (by omega)
    refine ⟨xs ++ [y], by simp [hl], fun i hi => ?_⟩
    simp only [List.length_append, List.length_cons, List.length_nil] at hi
    by_cases e : i < xs.length
    · rw [List.getElem_append_left e]; exact hx i e
    · obtain rfl : i = n := by omega
      rw [List.getElem_append_right (by omega)]
      simpa [hl] using hy
section
variable {H : Type} {enc : TypeId × Value → H} {P : Program} {w : World}
def Opens {α : Type} (enc : TypeId × Value → H) (P : Program) (w : World) (t : TypeId) (R : Rel α) : Prop :=
  ∀ fuel cs y, DataW.trod enc P w 0 (fun _ => true) true fuel t cs = some y → (∀ n ∈ y.1.weights P t, n ≤ reachBytes) → ∃ x, R w cs x
theorem opens_int {t : TypeId} {k : IntKind} (ht : P.underlying t = some (.int k)) : Opens enc P w t (RInt k) := fun fuel cs y h _ => by
  obtain ⟨n, h1, _, h3⟩ := DataW.trod_int ht h
  exact ⟨n, h1, h3⟩
theorem opens_str {t : TypeId} (ht : P.underlying t = some .string) : Opens enc P w t RStr := fun fuel cs y h hw => by
  obtain ⟨n, h1, rfl, h3⟩ := DataW.trod_string ht h
  refine ⟨n, h1, ?_⟩
  have := hw n.data.toList.length (by simp [DataW.weights])
  simp only [Array.length_toList] at this
  exact this
theorem add_add0 (a : Addr) (i j : Nat) (h : a.spot = none) : (a.add i).add j = ⟨a.block, a.off + i + j, none⟩ := by
  obtain ⟨b, o, s⟩ := a
  simp only at h
  subst h
  unfold Addr.add
  by_cases h1 : i = 0 <;> by_cases h2 : j = 0 <;> simp [h1, h2]
theorem weights_all {t : TypeId} : ∀ {ds : List (DataW H)} {d : DataW H}, d ∈ ds → ∀ n ∈ d.weights P t, n ∈ DataW.weightsAll P t ds
  | d0 :: ds, d, hd, n, hn => by
    simp only [DataW.weightsAll, List.mem_append]
    rcases List.mem_cons.1 hd with e | e
    · exact .inl (e ▸ hn)
    · exact .inr (weights_all e n hn)
theorem opens_sl {α : Type} {t e : TypeId} {size : Nat} {R : Rel α} (ht : P.underlying t = some (.slice e)) (hC : P.cellsOf e = size) (hs : 0 < size) (hB : 0 < P.bytesOf e) (he : Opens enc P w e R) : Opens enc P w t (RSl size R) := by
  intro fuel cs y h hw
  rcases DataW.trod_slice ht h with ⟨rfl, _⟩ | ⟨a, len, cap, elems, rest, n, _, rfl, rfl, _, hl, hm, hlen, hel, hsp, _⟩
  · exact ⟨[], none, 0, rfl, Nat.le_refl _, by omega, fun h => absurd h (Nat.lt_irrefl 0)⟩
  · have hcap : cap ≤ 140737488351232 := by
      have h1 := hw ((elems.length + rest.length) * P.bytesOf e) (by simp [DataW.weights, ht])
      have h2 := (hsp rfl).1
      have h3 : elems.length + rest.length ≤ (elems.length + rest.length) * P.bytesOf e := Nat.le_mul_of_pos_right _ hB
      unfold reachBytes at h1
      omega
    have hwe : ∀ y ∈ elems, ∀ n ∈ y.1.weights P e, n ≤ reachBytes := fun y hy n hn => by
      refine hw n ?_
      simp only [DataW.weights, ht, List.mem_cons, List.mem_append]
      exact .inr (.inl (weights_all (List.mem_map_of_mem hy) n hn))
    have each : ∀ i, i < len → ∃ x, ∃ es : List Value, es.length = size ∧ (∀ j, j < size → w.cell? ((a.add (i * size)).add j) = es[j]?) ∧ R w es x := by
      intro i hi
      have h1 := hel i hi
      rw [hC, List.getElem?_eq_getElem (by omega)] at h1
      obtain ⟨es, hes, htr⟩ := Option.bind_eq_some_iff.1 h1
      obtain ⟨_, h2, h3⟩ := World.cells?_some hes
      obtain ⟨x, hx⟩ := he _ _ _ htr (hwe _ (List.getElem_mem _))
      exact ⟨x, es, h2, h3, hx⟩
    obtain ⟨xs, hxl, hx⟩ := choose_list len each
    subst hxl
    refine ⟨xs, some a, cap, rfl, hl, hcap, fun h0 => ?_⟩
    have hsp : a.spot = none := by
      obtain ⟨es, h1, h2, _⟩ := hx 0 h0
      have := h2 0 hs
      rw [List.getElem?_eq_getElem (by omega)] at this
      have e : (a.add (0 * size)).add 0 = a := by simp [Addr.add]
      rw [e] at this
      exact World.cell?_spot this
    refine ⟨a.block, a.off, by obtain ⟨b, o, s⟩ := a; simp only at hsp; rw [hsp], fun i hi => ?_⟩
    obtain ⟨es, h1, h2, h3⟩ := hx i hi
    refine ⟨es, h1, fun j hj => ?_, h3⟩
    rw [← add_add0 a _ _ hsp]
    exact h2 j hj
theorem struct_fields {t : TypeId} {fs : Array Field} {fuel : Nat} {cs : List Value} {y : DataW H × List MemPlace} (ht : P.underlying t = some (.struct fs))
    (h : DataW.trod enc P w 0 (fun _ => true) true fuel t cs = some y) (hw : ∀ n ∈ y.1.weights P t, n ≤ reachBytes) :
    cs.length = P.cellsOf t ∧ ∀ (α : Type) (i : Nat) (f : Field) (R : Rel α), fs[i]? = some f → Opens enc P w f.type R → ∃ x, R w ((cs.drop f.offset).take (P.cellsOf f.type)) x := by
  obtain ⟨xs, n, _, rfl, hl, hxl, hf⟩ := DataW.trod_struct ht h
  refine ⟨hl, fun α i f R hi ho => ?_⟩
  have hil : i < xs.length := by
    rw [hxl]
    exact (Array.getElem?_eq_some_iff.1 hi).1
  have h1 := hf i f hi
  rw [List.getElem?_eq_getElem hil] at h1
  refine ho _ _ _ h1 fun m hm => hw m ?_
  simp only [DataW.weights, ht]
  exact DataW.weights_mem_each (j := i) (t := f.type) (d := xs[i].1) (by simp [List.getElem?_map, Array.getElem?_toList, hi]) (by simp [List.getElem?_map, List.getElem?_eq_getElem hil]) m hm
theorem arg_weights {ts : List TypeId} {ds : List (DataW H)} (h : (DataW.weightsEach P ts ds).all (· ≤ reachBytes) = true) {j : Nat} {t : TypeId} {d : DataW H} (ht : ts[j]? = some t) (hd : ds[j]? = some d) : ∀ n ∈ d.weights P t, n ≤ reachBytes :=
  fun n hn => by simpa using List.all_eq_true.1 h _ (DataW.weights_mem_each ht hd n hn)
end
theorem sl_at {α : Type} {size : Nat} {R : Rel α} {w : World} {A : Option Addr} {len cap : Nat} {xs : List α} (h : RSl size R w [.slice A len cap] xs) : len = xs.length ∧ len ≤ cap ∧ cap ≤ 140737488351232 ∧
    (0 < len → ∃ b off, A = some ⟨b, off, none⟩ ∧ ∀ i (hi : i < xs.length), ∃ es : List Value, es.length = size ∧ (∀ j, j < size → w.cell? ⟨b, off + i * size + j, none⟩ = es[j]?) ∧ R w es xs[i]) := by
  obtain ⟨A', cap', e, h1, h2, h3⟩ := h
  injection e with e
  injection e with e1 e2 e3
  subst e1; subst e2; subst e3
  exact ⟨rfl, h1, h2, h3⟩
end Go.Proofs.YtbiioaggilaebaaGreatDoor.Rd
set_option linter.unusedVariables false
set_option linter.unusedSimpArgs false
namespace Go.Proofs.YtbiioaggilaebaaGreatDoor.Sha
open Go.RowKit Go.Proofs.YtbiioaggilaebaaGreatDoor.B
def Cnt (n : Int) : Prop := n = 2 ∨ n = 6 ∨ n = 7 ∨ n = 11 ∨ n = 13 ∨ n = 17 ∨ n = 18 ∨ n = 19 ∨ n = 22 ∨ n = 25
theorem ret_int {k : IntKind} {a b : Int} (h : a = b) : Ending.returned (.int k a) = .returned (.int k b) := by rw [h]
theorem ror_val (x : W) (n : Nat) : bits .or .u32 (nv x / 2 ^ n) ((nv x * 2 ^ (32 - n)) % 4294967296) = nv (ror x n) := by
  rw [nv_shr, nv_shl, nv_or]; rfl
theorem ror_val2 (x : W) (n : Nat) : bits .or .u32 ((nv x * 2 ^ (32 - n)) % 4294967296) (nv x / 2 ^ n) = nv (ror x n) := by
  rw [nv_shr, nv_shl, nv_or]
  unfold ror
  congr 1
  exact BitVec.or_comm _ _
theorem rot_2 (x : W) (w : World) :
    Calls Tryz.prog 158 #[.int .u32 (nv x), .int .i64 (-2)] w fun e w' => e = .returned (.int .u32 (nv (ror x 2))) ∧ w = w' := by
  have hr := Lib.hid (ror_val2 x 2)
  have hk : bits .and .u64 (IntKind.u64.wrap (-2)) 31 = 30 := by decide +kernel
  generalize ror x 2 = y at *
  go_enter Tryz.func158, Tryz.ntmps158
  go_wp2
  go_ret
  exact ⟨ret_int (by first | exact hr.out | simpa [IntKind.wrap_u32] using hr.out), rfl⟩
theorem turn_2 (x : W) (w : World) :
    Calls Tryz.prog 141 #[.int .u32 (nv x), .int .i64 2] w fun e w' => e = .returned (.int .u32 (nv (ror x 2))) ∧ w = w' := by
  have C := Lib.hid (rot_2 x w)
  go_enter Tryz.func141, Tryz.ntmps141
  go_wp2_with (go_at_call 158; refine (C.out).mono ?_; rintro e w' ⟨rfl, rfl⟩)
  go_ret
  exact ⟨rfl, rfl⟩
theorem rturn_2 (x : W) (w : World) :
    Calls Tryz.prog 92 #[.int .u32 (nv x), .int .i64 2] w fun e w' => e = .returned (.int .u32 (nv (ror x 2))) ∧ ∃ n, w' = w.drewN n := by
  have hr := Lib.hid (ror_val x 2)
  generalize ror x 2 = y at *
  go_enter Tryz.func92, Tryz.ntmps92
  go_wp2
  go_quiet (fail)
  go_wp2
  go_ret
  exact ⟨ret_int (by first | exact hr.out | simpa [IntKind.wrap_u32] using hr.out), ⟨_, rfl⟩⟩
theorem rot_6 (x : W) (w : World) :
    Calls Tryz.prog 158 #[.int .u32 (nv x), .int .i64 (-6)] w fun e w' => e = .returned (.int .u32 (nv (ror x 6))) ∧ w = w' := by
  have hr := Lib.hid (ror_val2 x 6)
  have hk : bits .and .u64 (IntKind.u64.wrap (-6)) 31 = 26 := by decide +kernel
  generalize ror x 6 = y at *
  go_enter Tryz.func158, Tryz.ntmps158
  go_wp2
  go_ret
  exact ⟨ret_int (by first | exact hr.out | simpa [IntKind.wrap_u32] using hr.out), rfl⟩
theorem turn_6 (x : W) (w : World) :
    Calls Tryz.prog 141 #[.int .u32 (nv x), .int .i64 6] w fun e w' => e = .returned (.int .u32 (nv (ror x 6))) ∧ w = w' := by
  have C := Lib.hid (rot_6 x w)
  go_enter Tryz.func141, Tryz.ntmps141
  go_wp2_with (go_at_call 158; refine (C.out).mono ?_; rintro e w' ⟨rfl, rfl⟩)
  go_ret
  exact ⟨rfl, rfl⟩
theorem rturn_6 (x : W) (w : World) :
    Calls Tryz.prog 92 #[.int .u32 (nv x), .int .i64 6] w fun e w' => e = .returned (.int .u32 (nv (ror x 6))) ∧ ∃ n, w' = w.drewN n := by
  have hr := Lib.hid (ror_val x 6)
  generalize ror x 6 = y at *
  go_enter Tryz.func92, Tryz.ntmps92
  go_wp2
  go_quiet (fail)
  go_wp2
  go_ret
  exact ⟨ret_int (by first | exact hr.out | simpa [IntKind.wrap_u32] using hr.out), ⟨_, rfl⟩⟩
theorem rot_7 (x : W) (w : World) :
    Calls Tryz.prog 158 #[.int .u32 (nv x), .int .i64 (-7)] w fun e w' => e = .returned (.int .u32 (nv (ror x 7))) ∧ w = w' := by
  have hr := Lib.hid (ror_val2 x 7)
  have hk : bits .and .u64 (IntKind.u64.wrap (-7)) 31 = 25 := by decide +kernel
  generalize ror x 7 = y at *
  go_enter Tryz.func158, Tryz.ntmps158
  go_wp2
  go_ret
  exact ⟨ret_int (by first | exact hr.out | simpa [IntKind.wrap_u32] using hr.out), rfl⟩
theorem turn_7 (x : W) (w : World) :
    Calls Tryz.prog 141 #[.int .u32 (nv x), .int .i64 7] w fun e w' => e = .returned (.int .u32 (nv (ror x 7))) ∧ w = w' := by
  have C := Lib.hid (rot_7 x w)
  go_enter Tryz.func141, Tryz.ntmps141
  go_wp2_with (go_at_call 158; refine (C.out).mono ?_; rintro e w' ⟨rfl, rfl⟩)
  go_ret
  exact ⟨rfl, rfl⟩
theorem rturn_7 (x : W) (w : World) :
    Calls Tryz.prog 92 #[.int .u32 (nv x), .int .i64 7] w fun e w' => e = .returned (.int .u32 (nv (ror x 7))) ∧ ∃ n, w' = w.drewN n := by
  have hr := Lib.hid (ror_val x 7)
  generalize ror x 7 = y at *
  go_enter Tryz.func92, Tryz.ntmps92
  go_wp2
  go_quiet (fail)
  go_wp2
  go_ret
  exact ⟨ret_int (by first | exact hr.out | simpa [IntKind.wrap_u32] using hr.out), ⟨_, rfl⟩⟩
theorem rot_11 (x : W) (w : World) :
    Calls Tryz.prog 158 #[.int .u32 (nv x), .int .i64 (-11)] w fun e w' => e = .returned (.int .u32 (nv (ror x 11))) ∧ w = w' := by
  have hr := Lib.hid (ror_val2 x 11)
  have hk : bits .and .u64 (IntKind.u64.wrap (-11)) 31 = 21 := by decide +kernel
  generalize ror x 11 = y at *
  go_enter Tryz.func158, Tryz.ntmps158
  go_wp2
  go_ret
  exact ⟨ret_int (by first | exact hr.out | simpa [IntKind.wrap_u32] using hr.out), rfl⟩
theorem turn_11 (x : W) (w : World) :
    Calls Tryz.prog 141 #[.int .u32 (nv x), .int .i64 11] w fun e w' => e = .returned (.int .u32 (nv (ror x 11))) ∧ w = w' := by
  have C := Lib.hid (rot_11 x w)
  go_enter Tryz.func141, Tryz.ntmps141
  go_wp2_with (go_at_call 158; refine (C.out).mono ?_; rintro e w' ⟨rfl, rfl⟩)
  go_ret
  exact ⟨rfl, rfl⟩
theorem rturn_11 (x : W) (w : World) :
    Calls Tryz.prog 92 #[.int .u32 (nv x), .int .i64 11] w fun e w' => e = .returned (.int .u32 (nv (ror x 11))) ∧ ∃ n, w' = w.drewN n := by
  have hr := Lib.hid (ror_val x 11)
  generalize ror x 11 = y at *
  go_enter Tryz.func92, Tryz.ntmps92
  go_wp2
  go_quiet (fail)
  go_wp2
  go_ret
  exact ⟨ret_int (by first | exact hr.out | simpa [IntKind.wrap_u32] using hr.out), ⟨_, rfl⟩⟩
theorem rot_13 (x : W) (w : World) :
    Calls Tryz.prog 158 #[.int .u32 (nv x), .int .i64 (-13)] w fun e w' => e = .returned (.int .u32 (nv (ror x 13))) ∧ w = w' := by
  have hr := Lib.hid (ror_val2 x 13)
  have hk : bits .and .u64 (IntKind.u64.wrap (-13)) 31 = 19 := by decide +kernel
  generalize ror x 13 = y at *
  go_enter Tryz.func158, Tryz.ntmps158
  go_wp2
  go_ret
  exact ⟨ret_int (by first | exact hr.out | simpa [IntKind.wrap_u32] using hr.out), rfl⟩
theorem turn_13 (x : W) (w : World) :
    Calls Tryz.prog 141 #[.int .u32 (nv x), .int .i64 13] w fun e w' => e = .returned (.int .u32 (nv (ror x 13))) ∧ w = w' := by
  have C := Lib.hid (rot_13 x w)
  go_enter Tryz.func141, Tryz.ntmps141
  go_wp2_with (go_at_call 158; refine (C.out).mono ?_; rintro e w' ⟨rfl, rfl⟩)
  go_ret
  exact ⟨rfl, rfl⟩
theorem rturn_13 (x : W) (w : World) :
    Calls Tryz.prog 92 #[.int .u32 (nv x), .int .i64 13] w fun e w' => e = .returned (.int .u32 (nv (ror x 13))) ∧ ∃ n, w' = w.drewN n := by
  have hr := Lib.hid (ror_val x 13)
  generalize ror x 13 = y at *
  go_enter Tryz.func92, Tryz.ntmps92
  go_wp2
  go_quiet (fail)
  go_wp2
  go_ret
  exact ⟨ret_int (by first | exact hr.out | simpa [IntKind.wrap_u32] using hr.out), ⟨_, rfl⟩⟩
theorem rot_17 (x : W) (w : World) :
    Calls Tryz.prog 158 #[.int .u32 (nv x), .int .i64 (-17)] w fun e w' => e = .returned (.int .u32 (nv (ror x 17))) ∧ w = w' := by
  have hr := Lib.hid (ror_val2 x 17)
  have hk : bits .and .u64 (IntKind.u64.wrap (-17)) 31 = 15 := by decide +kernel
  generalize ror x 17 = y at *
  go_enter Tryz.func158, Tryz.ntmps158
  go_wp2
  go_ret
  exact ⟨ret_int (by first | exact hr.out | simpa [IntKind.wrap_u32] using hr.out), rfl⟩
theorem turn_17 (x : W) (w : World) :
    Calls Tryz.prog 141 #[.int .u32 (nv x), .int .i64 17] w fun e w' => e = .returned (.int .u32 (nv (ror x 17))) ∧ w = w' := by
  have C := Lib.hid (rot_17 x w)
  go_enter Tryz.func141, Tryz.ntmps141
  go_wp2_with (go_at_call 158; refine (C.out).mono ?_; rintro e w' ⟨rfl, rfl⟩)
  go_ret
  exact ⟨rfl, rfl⟩
theorem rturn_17 (x : W) (w : World) :
    Calls Tryz.prog 92 #[.int .u32 (nv x), .int .i64 17] w fun e w' => e = .returned (.int .u32 (nv (ror x 17))) ∧ ∃ n, w' = w.drewN n := by
  have hr := Lib.hid (ror_val x 17)
  generalize ror x 17 = y at *
  go_enter Tryz.func92, Tryz.ntmps92
  go_wp2
  go_quiet (fail)
  go_wp2
  go_ret
  exact ⟨ret_int (by first | exact hr.out | simpa [IntKind.wrap_u32] using hr.out), ⟨_, rfl⟩⟩
theorem rot_18 (x : W) (w : World) :
    Calls Tryz.prog 158 #[.int .u32 (nv x), .int .i64 (-18)] w fun e w' => e = .returned (.int .u32 (nv (ror x 18))) ∧ w = w' := by
  have hr := Lib.hid (ror_val2 x 18)
  have hk : bits .and .u64 (IntKind.u64.wrap (-18)) 31 = 14 := by decide +kernel
  generalize ror x 18 = y at *
  go_enter Tryz.func158, Tryz.ntmps158
  go_wp2
  go_ret
  exact ⟨ret_int (by first | exact hr.out | simpa [IntKind.wrap_u32] using hr.out), rfl⟩
theorem turn_18 (x : W) (w : World) :
    Calls Tryz.prog 141 #[.int .u32 (nv x), .int .i64 18] w fun e w' => e = .returned (.int .u32 (nv (ror x 18))) ∧ w = w' := by
  have C := Lib.hid (rot_18 x w)
  go_enter Tryz.func141, Tryz.ntmps141
  go_wp2_with (go_at_call 158; refine (C.out).mono ?_; rintro e w' ⟨rfl, rfl⟩)
  go_ret
  exact ⟨rfl, rfl⟩
theorem rturn_18 (x : W) (w : World) :
    Calls Tryz.prog 92 #[.int .u32 (nv x), .int .i64 18] w fun e w' => e = .returned (.int .u32 (nv (ror x 18))) ∧ ∃ n, w' = w.drewN n := by
  have hr := Lib.hid (ror_val x 18)
  generalize ror x 18 = y at *
  go_enter Tryz.func92, Tryz.ntmps92
  go_wp2
  go_quiet (fail)
  go_wp2
  go_ret
  exact ⟨ret_int (by first | exact hr.out | simpa [IntKind.wrap_u32] using hr.out), ⟨_, rfl⟩⟩
theorem rot_19 (x : W) (w : World) :
    Calls Tryz.prog 158 #[.int .u32 (nv x), .int .i64 (-19)] w fun e w' => e = .returned (.int .u32 (nv (ror x 19))) ∧ w = w' := by
  have hr := Lib.hid (ror_val2 x 19)
  have hk : bits .and .u64 (IntKind.u64.wrap (-19)) 31 = 13 := by decide +kernel
  generalize ror x 19 = y at *
  go_enter Tryz.func158, Tryz.ntmps158
  go_wp2
  go_ret
  exact ⟨ret_int (by first | exact hr.out | simpa [IntKind.wrap_u32] using hr.out), rfl⟩
theorem turn_19 (x : W) (w : World) :
    Calls Tryz.prog 141 #[.int .u32 (nv x), .int .i64 19] w fun e w' => e = .returned (.int .u32 (nv (ror x 19))) ∧ w = w' := by
  have C := Lib.hid (rot_19 x w)
  go_enter Tryz.func141, Tryz.ntmps141
  go_wp2_with (go_at_call 158; refine (C.out).mono ?_; rintro e w' ⟨rfl, rfl⟩)
  go_ret
  exact ⟨rfl, rfl⟩
theorem rturn_19 (x : W) (w : World) :
    Calls Tryz.prog 92 #[.int .u32 (nv x), .int .i64 19] w fun e w' => e = .returned (.int .u32 (nv (ror x 19))) ∧ ∃ n, w' = w.drewN n := by
  have hr := Lib.hid (ror_val x 19)
  generalize ror x 19 = y at *
  go_enter Tryz.func92, Tryz.ntmps92
  go_wp2
  go_quiet (fail)
  go_wp2
  go_ret
  exact ⟨ret_int (by first | exact hr.out | simpa [IntKind.wrap_u32] using hr.out), ⟨_, rfl⟩⟩
theorem rot_22 (x : W) (w : World) :
    Calls Tryz.prog 158 #[.int .u32 (nv x), .int .i64 (-22)] w fun e w' => e = .returned (.int .u32 (nv (ror x 22))) ∧ w = w' := by
  have hr := Lib.hid (ror_val2 x 22)
  have hk : bits .and .u64 (IntKind.u64.wrap (-22)) 31 = 10 := by decide +kernel
  generalize ror x 22 = y at *
  go_enter Tryz.func158, Tryz.ntmps158
  go_wp2
  go_ret
  exact ⟨ret_int (by first | exact hr.out | simpa [IntKind.wrap_u32] using hr.out), rfl⟩
theorem turn_22 (x : W) (w : World) :
    Calls Tryz.prog 141 #[.int .u32 (nv x), .int .i64 22] w fun e w' => e = .returned (.int .u32 (nv (ror x 22))) ∧ w = w' := by
  have C := Lib.hid (rot_22 x w)
  go_enter Tryz.func141, Tryz.ntmps141
  go_wp2_with (go_at_call 158; refine (C.out).mono ?_; rintro e w' ⟨rfl, rfl⟩)
  go_ret
  exact ⟨rfl, rfl⟩
theorem rturn_22 (x : W) (w : World) :
    Calls Tryz.prog 92 #[.int .u32 (nv x), .int .i64 22] w fun e w' => e = .returned (.int .u32 (nv (ror x 22))) ∧ ∃ n, w' = w.drewN n := by
  have hr := Lib.hid (ror_val x 22)
  generalize ror x 22 = y at *
  go_enter Tryz.func92, Tryz.ntmps92
  go_wp2
  go_quiet (fail)
  go_wp2
  go_ret
  exact ⟨ret_int (by first | exact hr.out | simpa [IntKind.wrap_u32] using hr.out), ⟨_, rfl⟩⟩
theorem rot_25 (x : W) (w : World) :
    Calls Tryz.prog 158 #[.int .u32 (nv x), .int .i64 (-25)] w fun e w' => e = .returned (.int .u32 (nv (ror x 25))) ∧ w = w' := by
  have hr := Lib.hid (ror_val2 x 25)
  have hk : bits .and .u64 (IntKind.u64.wrap (-25)) 31 = 7 := by decide +kernel
  generalize ror x 25 = y at *
  go_enter Tryz.func158, Tryz.ntmps158
  go_wp2
  go_ret
  exact ⟨ret_int (by first | exact hr.out | simpa [IntKind.wrap_u32] using hr.out), rfl⟩
theorem turn_25 (x : W) (w : World) :
    Calls Tryz.prog 141 #[.int .u32 (nv x), .int .i64 25] w fun e w' => e = .returned (.int .u32 (nv (ror x 25))) ∧ w = w' := by
  have C := Lib.hid (rot_25 x w)
  go_enter Tryz.func141, Tryz.ntmps141
  go_wp2_with (go_at_call 158; refine (C.out).mono ?_; rintro e w' ⟨rfl, rfl⟩)
  go_ret
  exact ⟨rfl, rfl⟩
theorem rturn_25 (x : W) (w : World) :
    Calls Tryz.prog 92 #[.int .u32 (nv x), .int .i64 25] w fun e w' => e = .returned (.int .u32 (nv (ror x 25))) ∧ ∃ n, w' = w.drewN n := by
  have hr := Lib.hid (ror_val x 25)
  generalize ror x 25 = y at *
  go_enter Tryz.func92, Tryz.ntmps92
  go_wp2
  go_quiet (fail)
  go_wp2
  go_ret
  exact ⟨ret_int (by first | exact hr.out | simpa [IntKind.wrap_u32] using hr.out), ⟨_, rfl⟩⟩
theorem turn_any (x : W) (n : Int) (hn : Cnt n) (w : World) :
    Calls Tryz.prog 141 #[.int .u32 (nv x), .int .i64 n] w fun e w' => e = .returned (.int .u32 (nv (ror x n.toNat))) ∧ w = w' := by
  rcases hn with rfl | rfl | rfl | rfl | rfl | rfl | rfl | rfl | rfl | rfl
  · exact turn_2 x w
  · exact turn_6 x w
  · exact turn_7 x w
  · exact turn_11 x w
  · exact turn_13 x w
  · exact turn_17 x w
  · exact turn_18 x w
  · exact turn_19 x w
  · exact turn_22 x w
  · exact turn_25 x w
theorem rturn_any (x : W) (n : Int) (hn : Cnt n) (w : World) :
    Calls Tryz.prog 92 #[.int .u32 (nv x), .int .i64 n] w fun e w' => e = .returned (.int .u32 (nv (ror x n.toNat))) ∧ ∃ n, w' = w.drewN n := by
  rcases hn with rfl | rfl | rfl | rfl | rfl | rfl | rfl | rfl | rfl | rfl
  · exact rturn_2 x w
  · exact rturn_6 x w
  · exact rturn_7 x w
  · exact rturn_11 x w
  · exact rturn_13 x w
  · exact rturn_17 x w
  · exact rturn_18 x w
  · exact rturn_19 x w
  · exact rturn_22 x w
  · exact rturn_25 x w
end Go.Proofs.YtbiioaggilaebaaGreatDoor.Sha
set_option linter.unusedVariables false
set_option linter.unusedSimpArgs false
namespace Go.Proofs.YtbiioaggilaebaaGreatDoor.Bld
open Go Go.RowKit Go.Proofs.YtbiioaggilaebaaGreatDoor.B
def WAt (B g : Nat) (l : List UInt8) (e d : Value) (w : World) : Prop :=
  B ≤ g ∧ ∃ p v, (p = .pointer none ∨ p = .pointer (some ⟨g, 0, none⟩)) ∧ w.heap[g]? = some (.cells #[p, v, e, d] 129 (0, 0)) ∧ w.ownsRow B 5 1 v l.length (bc l)
def Oth (g : Nat) (w w' : World) : Prop := ∀ (k : Nat) (cs : Array Value) (ty : TypeId) (fz : Nat × Nat), k ≠ g → ty ≠ 5 → w.heap[k]? = some (.cells cs ty fz) → w'.heap[k]? = some (.cells cs ty fz)
theorem Oth.refl (g : Nat) (w : World) : Oth g w w := fun _ _ _ _ _ _ h => h
theorem Oth.trans {g : Nat} {a b c : World} (h : Oth g a b) (k : Oth g b c) : Oth g a c := fun i cs ty fz h1 h2 h3 => k i cs ty fz h1 h2 (h i cs ty fz h1 h2 h3)
theorem Oth.below {g : Nat} {w w' : World} (h : Below w.heap.size w w') : Oth g w w' := fun k cs ty fz _ _ h3 => (h.block k (heap_lt h3)).trans h3
theorem Oth.alloc (g : Nat) (w : World) (o : Obj) : Oth g w (w.alloc o) := Oth.below ((Below.refl _ _).alloc (Nat.le_refl _) _)
theorem Oth.set (g o : Nat) (w : World) (u : Value) : Oth g w (w.setCell ⟨g, o, none⟩ u) := fun k cs ty fz h1 _ h3 => by
  rw [Below.heap_setCell _ _ _ _ (by simpa using h1)]; exact h3
theorem Oth.grown {g : Nat} {w w' : World} {base size n : Nat} {v : Value} {xs : List Value} (ho : w.ownsRow base 5 size v n xs) (hg : w.grownBy w' v.ownBlock) : Oth g w w' := fun k cs ty fz _ h2 h3 => by
  rw [hg.block k (heap_lt h3) (fun e => ?_)]
  · exact h3
  · rcases ho.2 with ⟨rfl, _⟩ | ⟨r, cap, cur, rfl, hr, hh, _⟩
    · simp [Value.ownBlock] at e
    · have : k = r := by simpa [Value.ownBlock] using e
      subst this
      rw [hh] at h3
      injection h3 with h3
      injection h3 with _ h3 _
      exact h2 h3.symm
theorem own_far {w : World} {base size n g : Nat} {v : Value} {xs : List Value} {cs : Array Value} {fz : Nat × Nat} (ho : w.ownsRow base 5 size v n xs) (hg : w.heap[g]? = some (.cells cs 129 fz)) : v.ownBlock ≠ some g := by
  intro h
  rcases ho.2 with ⟨rfl, _⟩ | ⟨k, cap, cur, rfl, hk, hh, _⟩
  · simp [Value.ownBlock] at h
  · have : k = g := by simpa [Value.ownBlock] using h
    subst this
    rw [hh] at hg
    injection hg with hg
    injection hg with _ hg _
    exact absurd hg (by decide)
theorem own_slice {w : World} {base size n : Nat} {e : TypeId} {v : Value} {xs : List Value} (ho : w.ownsRow base e size v n xs) : ∃ ao n' cap, v = .slice ao n' cap := by
  rcases ho.2 with ⟨hv, _⟩ | ⟨g', cap, cur, hv, _⟩
  · exact ⟨_, _, _, hv⟩
  · exact ⟨_, _, _, hv⟩
theorem after_row {w1 w2 : World} {base n size g : Nat} {p v e d : Value} {xs : List Value} (hg : w1.heap[g]? = some (.cells #[p, v, e, d] 129 (0, 0))) (ho : w1.ownsRow base 5 size v n xs) (hgrow : w1.grownBy w2 v.ownBlock) :
    w2.heap[g]? = some (.cells #[p, v, e, d] 129 (0, 0)) ∧ w2.cell? ⟨g, 1, none⟩ = some v ∧ w2.frozen? ⟨g, 1, none⟩ = false := by
  have h : w2.heap[g]? = some (.cells #[p, v, e, d] 129 (0, 0)) := by
    rw [hgrow.block g (heap_lt hg) (fun e => own_far ho hg e.symm)]
    exact hg
  exact ⟨h, by rw [cell_of h]; rfl, fr_of h 1⟩
theorem after_row1 {w1 w2 : World} {base n size g : Nat} {p v e d : Value} {xs : List Value} {o : Obj} (hg : w1.heap[g]? = some (.cells #[p, v, e, d] 129 (0, 0))) (ho : w1.ownsRow base 5 size v n xs) (hgrow : (w1.alloc o).grownBy w2 v.ownBlock) :
    w2.heap[g]? = some (.cells #[p, v, e, d] 129 (0, 0)) ∧ w2.cell? ⟨g, 1, none⟩ = some v ∧ w2.frozen? ⟨g, 1, none⟩ = false :=
  after_row (by rw [heap_alloc_lt _ _ _ (heap_lt hg)]; exact hg) (ho.alloc _) hgrow
theorem bsize : (Tryz.prog.info? 127).map (·.size) = some 2 := by kernel_rfl
theorem blies : liesAt Tryz.prog Tryz.prog.depth 129 (4 / Tryz.prog.cellsOf 129) 0 127 1 = true := by kernel_rfl
theorem len_any (B g : Nat) (l : List UInt8) (e d : Value) (w : World) (h : WAt B g l e d w) :
    Calls Tryz.prog 79 #[.pointer (some ⟨g, 0, none⟩)] w fun ev w' => ev = .returned (.int .i64 l.length) ∧ w' = w := by
  obtain ⟨hB, p, v, hp, hg, ho⟩ := h
  obtain ⟨A, c, rfl⟩ : ∃ A c, v = .slice A l.length c := by
    rcases ho.2 with ⟨rfl, h0⟩ | ⟨k, cap, cur, rfl, _⟩
    · exact ⟨none, 0, by rw [h0]⟩
    · exact ⟨_, _, rfl⟩
  have c1 : w.cell? ⟨g, 1, none⟩ = some (.slice A l.length c) := by rw [cell_of hg]; rfl
  clear ho hg hp
  go_enter Tryz.func79, Tryz.ntmps79
  go_wp2
  go_ret
  exact ⟨rfl, rfl⟩
set_option maxRecDepth 100000 in
theorem check_used (g : Nat) (w : World) (h0 : w.cell? ⟨g, 0, none⟩ = some (.pointer (some ⟨g, 0, none⟩))) :
    Calls Tryz.prog 150 #[.pointer (some ⟨g, 0, none⟩)] w fun ev w' => ev = .returned (.tuple #[]) ∧ w' = w := by
  obtain ⟨j, hj, _⟩ := Option.map_eq_some_iff.1 bsize
  go_enter Tryz.func150, Tryz.ntmps150
  go_wp2
  rw [Lib.run_neq_ptr_same w _ Tryz.underlying125 hj]
  go_wp2
  go_end0
  exact ⟨rfl, rfl⟩
set_option maxRecDepth 100000 in
set_option maxHeartbeats 1000000 in
theorem check_fresh (g : Nat) (w : World) (h0 : w.cell? ⟨g, 0, none⟩ = some (.pointer none)) (hsh : w.shape? g = some (129, 4)) (hfz : w.frozen? ⟨g, 0, none⟩ = false) :
    Calls Tryz.prog 150 #[.pointer (some ⟨g, 0, none⟩)] w fun ev w' => ev = .returned (.tuple #[]) ∧ w' = w.setCell ⟨g, 0, none⟩ (.pointer (some ⟨g, 0, none⟩)) := by
  obtain ⟨j, hj, hjs⟩ := Option.map_eq_some_iff.1 bsize
  go_enter Tryz.func150, Tryz.ntmps150
  go_wp2
  rw [Lib.run_to_unsafe w ⟨g, 0, none⟩ Tryz.underlying125 Tryz.underlying101 hj (by rw [hjs]; decide) hsh (Nat.zero_lt_succ 3)]
  simp only [Result.andThen]
  rw [Oper.upon_value]
  go_wp2
  rw [run_callFunc_extern Tryz.func175 (by kernel_rfl) (by kernel_rfl) (by kernel_rfl) (e := Extern.AbiNoEscape.same) (by kernel_rfl)]
  rw [Lib.run_noEscape]
  simp only [Result.andThen]
  rw [Oper.upon_value]
  go_wp2
  rw [Lib.run_from_unsafe w ⟨g, 0, none⟩ Tryz.underlying101 Tryz.underlying125 hj hsh blies]
  simp only [Result.andThen]
  rw [Oper.upon_value]
  go_wp2
  go_end0
  exact ⟨rfl, rfl⟩
def WUsed (B g : Nat) (l : List UInt8) (e d : Value) (w : World) : Prop :=
  B ≤ g ∧ ∃ v, w.heap[g]? = some (.cells #[.pointer (some ⟨g, 0, none⟩), v, e, d] 129 (0, 0)) ∧ w.ownsRow B 5 1 v l.length (bc l)
theorem own_set {w : World} {base g n : Nat} {v u : Value} {xs : List Value} {cs : Array Value} {fz : Nat × Nat} {o : Nat} (ho : w.ownsRow base 5 1 v n xs) (hg : w.heap[g]? = some (.cells cs 129 fz)) : (w.setCell ⟨g, o, none⟩ u).ownsRow base 5 1 v n xs :=
  ho.kept (row := some g) ⟨rfl, rfl, rfl, by simp [World.setCell], fun k _ hk => Below.heap_setCell _ _ _ _ (fun e => hk (by simp [e]))⟩ (Or.inr (own_far ho hg))
theorem check_any (B g : Nat) (l : List UInt8) (e d : Value) (w : World) (h : WAt B g l e d w) :
    Calls Tryz.prog 150 #[.pointer (some ⟨g, 0, none⟩)] w fun ev w' => ev = .returned (.tuple #[]) ∧ WUsed B g l e d w' ∧ Below B w w' ∧ Oth g w w' := by
  obtain ⟨hB, p, v, rfl | rfl, hg, ho⟩ := h
  · refine (check_fresh g w (by rw [cell_of hg]; rfl) (by simp [World.shape?, hg]) (fr_of hg 0)).mono ?_
    rintro ev w' ⟨rfl, rfl⟩
    refine ⟨rfl, ⟨hB, v, ?_, own_set ho hg⟩, (Below.refl _ _).setCell (p := ⟨g, 0, none⟩) hB _, Oth.set _ _ _ _⟩
    rw [heap_set_some hg]
    rfl
  · refine (check_used g w (by rw [cell_of hg]; rfl)).mono ?_
    rintro ev w' ⟨rfl, rfl⟩
    exact ⟨rfl, ⟨hB, v, hg, ho⟩, Below.refl _ _, Oth.refl _ _⟩
theorem used_put {B g : Nat} {l : List UInt8} {e d p v v' : Value} {w : World} (hB : B ≤ g) (hp : p = .pointer none ∨ p = .pointer (some ⟨g, 0, none⟩)) (hg : w.heap[g]? = some (.cells #[p, v, e, d] 129 (0, 0))) (ho : w.ownsRow B 5 1 v' l.length (bc l)) :
    WAt B g l e d (w.setCell ⟨g, 1, none⟩ v') := by
  refine ⟨hB, p, v', hp, ?_, own_set ho hg⟩
  rw [heap_set_some hg]
  rfl
set_option maxRecDepth 100000 in
set_option maxHeartbeats 2000000 in
theorem string_any (B g : Nat) (l : List UInt8) (e d : Value) (s : ByteArray) (w : World) (h : WAt B g l e d w) (hlen : l.length + s.size ≤ 140737488355328) (hBw : B ≤ w.heap.size) :
    Calls Tryz.prog 122 #[.pointer (some ⟨g, 0, none⟩), .string s] w fun ev w' => ev = .returned (.tuple #[.int .i64 s.size, .nilIface]) ∧ WAt B g (l ++ s.data.toList) e d w' ∧ Below B w w' ∧ Oth g w w' := by
  obtain ⟨i8, hi8, hz8, hs8, hb8⟩ := info8
  have C := Lib.hid (check_any B g l e d w h)
  clear h
  go_enter Tryz.func122, Tryz.ntmps122
  go_wp2_with fail
  refine (C.out).mono ?_
  rintro ev w1 ⟨rfl, ⟨hB, v, hg, ho⟩, hb1, hoth⟩
  replace hoth := Lib.hid hoth
  have c1 : w1.cell? ⟨g, 1, none⟩ = some v := by rw [cell_of hg]; rfl
  have hoH := Lib.hid ho
  have hgH := Lib.hid hg
  have hb1H := Lib.hid hb1
  clear ho hg hb1 C
  go_wp2_with (at_builtin; refine Lib.wpList_append_own_string _ (by rfl) _ _ 69 9 (by rfl) B 5 i8 Tryz.underlying69 Tryz.underlying9 hi8 hz8 hs8 hb8 _ _ _ (by rfl) hoH.out s (by rfl) (by unfold maxLen; omega) (by omega) (by have := hb1H.out.size; omega) ?_; intro v' w2 hown' hgrow hniff; clear hniff; obtain ⟨ao, n', cap, rfl⟩ := own_slice hown'; obtain ⟨hg2', d1, f1⟩ := after_row hgH.out hoH.out hgrow; have hg2 := Lib.hid hg2'; have hownH := Lib.hid hown'; have hgrowH := Lib.hid hgrow; clear hown' hgrow hg2')
  have hbl := Lib.hid (hb1H.out.grown hgrowH.out (by have := hb1H.out.size; omega) (fun k hk => (hoH.out.lt k hk).1))
  have hln : (l ++ s.data.toList).length = l.length + s.size := by rw [List.length_append, Array.length_toList]; rfl
  have hput := Lib.hid (fun u (hu : w2.ownsRow B 5 1 u (l ++ s.data.toList).length (bc (l ++ s.data.toList))) => used_put (e := e) (d := d) hB (.inr rfl) hg2.out hu)
  rw [hln, bc_append] at hput
  go_ret2
  refine ⟨rfl, hput.out _ hownH.out, hbl.out.setCell (p := ⟨g, 1, none⟩) hB _, (hoth.out.trans (Oth.grown hoH.out hgrowH.out)).trans (Oth.set _ _ _ _)⟩
set_option maxRecDepth 100000 in
set_option maxHeartbeats 2000000 in
theorem byte_any (B g : Nat) (l : List UInt8) (e d : Value) (c : UInt8) (w : World) (h : WAt B g l e d w) (hlen : l.length + 1 ≤ 140737488355328) (hBw : B ≤ w.heap.size) :
    Calls Tryz.prog 123 #[.pointer (some ⟨g, 0, none⟩), .int .u8 (c.toNat : Int)] w fun ev w' => ev = .returned .nilIface ∧ WAt B g (l ++ [c]) e d w' ∧ Below B w w' ∧ Oth g w w' := by
  obtain ⟨i8, hi8, hz8, hs8, hb8⟩ := info8
  have C := Lib.hid (check_any B g l e d w h)
  clear h
  go_enter Tryz.func123, Tryz.ntmps123
  go_wp2_with fail
  refine (C.out).mono ?_
  rintro ev w1 ⟨rfl, ⟨hB, v, hg, ho⟩, hb1, hoth⟩
  replace hoth := Lib.hid hoth
  have c1 : w1.cell? ⟨g, 1, none⟩ = some v := by rw [cell_of hg]; rfl
  have hoH := Lib.hid ho
  have hgH := Lib.hid hg
  have hb1H := Lib.hid hb1
  clear ho hg hb1 C
  go_wp2_with (at_builtin; refine wpList_append_own _ (by rfl) _ _ 69 (by rfl) B 5 i8 _ 1 1 Tryz.underlying69 hi8 hz8 hs8 hb8 (by rfl) (by decide) _ _ _ (by rfl) (hoH.out.alloc _) ⟨w1.heap.size, 0, none⟩ 1 1 [.int .u8 (c.toNat : Int)] (by rfl) (by rfl) (World.news_of_block (heap_alloc_at w1 _)) (by simp [Value.oneCell']) (by unfold maxLen; omega) (by omega) (by have := hb1H.out.size; simp; omega) ?_; intro v' w2 hown' hgrow hniff; clear hniff; obtain ⟨ao, n', cap, rfl⟩ := own_slice hown'; obtain ⟨hg2', d1, f1⟩ := after_row1 hgH.out hoH.out hgrow; have hg2 := Lib.hid hg2'; have hownH := Lib.hid hown'; have hgrowH := Lib.hid hgrow; clear hown' hgrow hg2')
  have hbl := Lib.hid ((hb1H.out.alloc (by have := hb1H.out.size; omega) _).grown hgrowH.out (by have := hb1H.out.size; simp; omega) (fun k hk => (hoH.out.lt k hk).1))
  have hput := Lib.hid (fun u (hu : w2.ownsRow B 5 1 u (l ++ [c]).length (bc (l ++ [c]))) => used_put (e := e) (d := d) hB (.inr rfl) hg2.out hu)
  rw [show (l ++ [c]).length = l.length + 1 from by simp, bc_append] at hput
  go_ret
  refine ⟨rfl, hput.out _ hownH.out, hbl.out.setCell (p := ⟨g, 1, none⟩) hB _, ((hoth.out.trans (Oth.alloc _ _ _)).trans (Oth.grown (hoH.out.alloc _) hgrowH.out)).trans (Oth.set _ _ _ _)⟩
set_option maxRecDepth 100000 in
set_option maxHeartbeats 2000000 in
theorem text_any (B g : Nat) (l : List UInt8) (e d : Value) (w : World) (h : WAt B g l e d w) (h0 : l ≠ []) :
    Calls Tryz.prog 80 #[.pointer (some ⟨g, 0, none⟩)] w fun ev w' => ev = .returned (.string ⟨l.toArray⟩) ∧ Below B w w' := by
  obtain ⟨hB, p, v, hp, hg, hown⟩ := h
  have hl0 : l.length ≠ 0 := by simpa using h0
  obtain ⟨k, cap, cur, rfl, hbk, hk, hnc, hcm, hcs, htake⟩ : ∃ k cap cur, v = .slice (some ⟨k, 0, none⟩) l.length cap ∧ B ≤ k ∧ w.heap[k]? = some (.cells cur 5 (0, 0)) ∧ l.length ≤ cap ∧ cap ≤ maxLen ∧ cur.size = cap * 1 ∧ cur.toList.take (l.length * 1) = bc l := by
    rcases hown.2 with ⟨_, hz⟩ | ⟨k, cap, cur, hv, r⟩
    · exact absurd hz hl0
    · exact ⟨k, cap, cur, hv, r⟩
  have c1 : w.drew.cell? ⟨g, 1, none⟩ = some (.slice (some ⟨k, 0, none⟩) l.length cap) := by
    have : w.drew.heap[g]? = some (.cells #[p, .slice (some ⟨k, 0, none⟩) l.length cap, e, d] 129 (0, 0)) := hg
    rw [cell_of this]; rfl
  have hSD : (Builtin.unsafeSliceData_ #[69] 190 #[.slice (some ⟨k, 0, none⟩) l.length cap]).run Tryz.prog w.drew = .ok (.pointer (some ⟨k, 0, none⟩)) w.drew :=
    Lib.run_unsafeSliceData_row _ _ _ _ _ _ (by omega)
  have hUS : (Builtin.unsafeString_ #[190, 3] 9 #[.pointer (some ⟨k, 0, none⟩), .int .i64 l.length]).run Tryz.prog w.drew = .ok (.string ⟨l.toArray⟩) (w.drew.freeze ⟨k, 0, none⟩ l.length) := by
    refine Lib.run_unsafeString_row w.drew 190 3 9 5 Tryz.underlying190 (by kernel_rfl) k cur.size (by have hg' : w.drew.heap[k]? = some (.cells cur 5 (0, 0)) := hk; simp [World.shape?, hg']) l h0 (by omega) (by unfold maxLen at hcm; omega) ?_
    intro j x hx
    have := hown.cells (g := k) rfl j (.int .u8 x.toNat) (by simp [bc, hx])
    exact this
  clear htake hown hg hk
  go_enter Tryz.func80, Tryz.ntmps80
  go_wp2_with fail
  go_region
  all_goals (go_wp2_with fail; go_ret; exact ⟨rfl, Lib.below_freeze (Below.drew (Below.refl B w)) (p := ⟨k, 0, none⟩) hbk _⟩)
end Go.Proofs.YtbiioaggilaebaaGreatDoor.Bld
set_option linter.unusedVariables false
namespace Go.Proofs.YtbiioaggilaebaaGreatDoor.Tm
open Go Go.Lib
def valFrom (a : Nat) (l : List UInt8) : Nat := l.foldl (fun a c => 10 * a + (c.toNat - 48)) a
theorem valFrom_ge : ∀ (l : List UInt8) (a : Nat), a ≤ valFrom a l
  | [], a => Nat.le_refl _
  | c :: l, a => by
    have := valFrom_ge l (10 * a + (c.toNat - 48))
    show a ≤ valFrom (10 * a + (c.toNat - 48)) l
    omega
theorem parse_digits : ∀ (l : List UInt8) (a : Nat), (∀ c ∈ l, isD c) → valFrom a l < 18446744073709551616 → parseUint10 a l = .ok (valFrom a l)
  | [], a, _, _ => rfl
  | c :: l, a, hd, hv => by
    have h1 : 48 ≤ c.toNat ∧ c.toNat ≤ 57 := hd c (by simp)
    have e : valFrom a (c :: l) = valFrom (10 * a + (c.toNat - 48)) l := rfl
    rw [e] at hv ⊢
    have h2 := valFrom_ge l (10 * a + (c.toNat - 48))
    unfold parseUint10
    rw [if_pos h1, if_neg (by omega), if_neg (by omega), show a * 10 + (c.toNat - 48) = 10 * a + (c.toNat - 48) from by omega]
    exact parse_digits l _ (fun d hd' => hd d (by simp [hd'])) hv
theorem parseMag_dec (k : Nat) (h : k < 18446744073709551616) : parseMag (decDigits k) = .ok k := by
  have e : valFrom 0 (decDigits k) = k := val_dec k
  unfold parseMag
  rw [if_neg (dec_ne k), parse_digits (decDigits k) 0 (fun c hc => dec_digit k c hc) (by rw [e]; exact h), e]
theorem atoi_itoa (n : Int) (h0 : -9223372036854775808 ≤ n) (h1 : n ≤ 9223372036854775807) : atoiAll (itoa n) = .ok n := by
  by_cases hn : 0 ≤ n
  · obtain ⟨k, rfl⟩ : ∃ k : Nat, n = (k : Int) := ⟨n.toNat, by omega⟩
    rw [itoa_nonneg]
    obtain ⟨c, r, hc⟩ := List.exists_cons_of_ne_nil (dec_ne k)
    have hd := dec_digit k c (by rw [hc]; simp)
    have hp := parseMag_dec k (by omega)
    rw [hc] at hp ⊢
    rw [atoiAll_plain c r (by omega) (by omega), hp]
    unfold signless
    simp only []
    rw [if_neg (by omega)]
  · obtain ⟨k, rfl, hk⟩ : ∃ k : Nat, n = -(k : Int) ∧ 1 ≤ k := ⟨(-n).toNat, by omega, by omega⟩
    rw [itoa_neg k hk, atoiAll_minus, parseMag_dec k (by omega)]
    unfold signed
    simp only []
    rw [if_neg (by omega)]
theorem atoiSat_bounds (l : List UInt8) : -9223372036854775808 ≤ atoiSat l ∧ atoiSat l ≤ 9223372036854775807 := by
  unfold atoiSat
  split <;> omega
end Go.Proofs.YtbiioaggilaebaaGreatDoor.Tm
set_option linter.unusedVariables false
set_option linter.unusedSimpArgs false
namespace Go.Proofs.YtbiioaggilaebaaGreatDoor.Pa
open Go Go.RowKit Go.Proofs.YtbiioaggilaebaaGreatDoorW.PrintWords Go.Proofs.YtbiioaggilaebaaGreatDoor.B
theorem ref_eqA (d : Nat) (w : World) (x0 y0 x1 y1 : Int) : (Op.equalIn (d + 2) 36 (.agg #[.int .i64 x0, .int .i64 x1]) (.agg #[.int .i64 y0, .int .i64 y1])).run Tryz.prog w = .ok (x0 == y0 && (x1 == y1)) w := by
  refine eqA_of Tryz.underlying36 (by kernel_rfl) ?_
  refine eqf_cons (by rfl) (by go_simp; rfl) (by go_simp; rfl) (by go_simp) ?_
  exact eqf_last (by rfl) (by go_simp; rfl) (by go_simp; rfl) (by go_simp)
end Go.Proofs.YtbiioaggilaebaaGreatDoor.Pa
set_option linter.unusedVariables false
set_option linter.unusedSimpArgs false
namespace Go.Proofs.YtbiioaggilaebaaGreatDoor.B
open Go Go.RowKit
def plainOp : Op → Bool
  | .move _ | .assign _ | .pick .. | .load .. | .binOp .. | .unOp .. | .convert .. | .slice .. | .fieldAddr .. | .field .. | .indexAddr .. | .index .. | .extract .. | .build .. | .nilCheck _ | .lookup .. => true
  | _ => false
section
variable {P : Program}
theorem v_ne (s : Sem Value) (w w' : World) (f : FuncId) (args : Array Value) : ((do pure (Next.value (← s))) : Sem Next).run P w ≠ .ok (.enter f args) w' := by
  simp
  cases s.run P w <;> simp
theorem plain_no (ρ : Operand → Value) (o : Oper) (h : plainOp o.op = true) (w w' : World) (f : FuncId) (args : Array Value) : (execOp ρ o).run P w ≠ .ok (.enter f args) w' := by
  unfold execOp
  cases ho : o.op <;> rw [ho] at h <;> first | (cases h; done) | (simp only []; exact v_ne _ _ _ _ _) | (simp; done) | skip
  · simp only [Sem.run_bind]
    cases (asBool (ρ _)).run P w <;> simp
  · simp only []
    split
    · unfold runtimePanic; simp
    · unfold runtimePanic; simp
    · unfold runtimePanic; simp
    · split
      · unfold runtimePanic; simp
      · simp only [Sem.run_bind]
        cases (program).run P w with
        | halt h w1 => simp
        | ok p w1 =>
          simp only [Result.andThen_ok]
          cases (nilAhead _ _ _ _).run P w1 with
          | halt h w2 => simp
          | ok b w2 =>
            simp only [Result.andThen_ok]
            split
            · simp only [Sem.run_bind]
              cases (unsupported _).run P w2 <;> simp
            · simp
      · simp
    · simp
variable {ops : Array Oper} {md : Region.Mode} {C : World → Prop}
def YieldsR (P : Program) (ops : Array Oper) (C : World → Prop) (o : Oper) (v : Value) (a : Act) : Prop :=
  (Region.wanted o (yielded ops a.tmps) = true ∧ ∀ w, C w → (execOp a.eval o).run P w = .ok (.value v) w ∨ ((execOp a.eval o).run P w = .ok .skip w ∧ v = undef)) ∨
  (Region.wanted o (yielded ops a.tmps) = false ∧ v = undef)
theorem YieldsR.of_same {o : Oper} {v : Value} {a a' : Act} (hy : YieldsR P ops C o v a) (he : execOp a'.eval o = execOp a.eval o)
    (hw : Region.wanted o (yielded ops a'.tmps) = Region.wanted o (yielded ops a.tmps)) : YieldsR P ops C o v a' := by
  unfold YieldsR at *
  rw [he, hw]
  exact hy
theorem YieldsR.op {i : Nat} {o : Oper} {v : Value} {a : Act} {w : World} {Q : Exit → Act → World → Prop} (hi : ops[i]? = some o) (hy : YieldsR P ops C o v a) (hC : C w) {K : Act → World → Prop} (h : K (a.put o.dst v) w) : wpOp P ops Q i K a w := by
  unfold wpOp
  simp only [hi]
  rcases hy with ⟨hw, hv⟩ | ⟨hw, rfl⟩
  · simp only [hw, if_true]
    left
    unfold Oper.wp
    rcases hv w hC with h1 | ⟨h1, h2⟩
    · rw [h1]; exact h
    · rw [h1, Oper.upon_skip, ← h2]; exact h
  · simp only [hw, Bool.false_eq_true, if_false]; exact h
theorem yieldsR_of_quiet {o : Oper} {a : Act} {K : Act → Prop} (hp : plainOp o.op = true) (h : if Region.wanted o (yielded ops a.tmps) then o.quiet P a C K else K (a.put o.dst undef)) :
    ∃ v, YieldsR P ops C o v a ∧ K (a.put o.dst v) := by
  by_cases hw : Region.wanted o (yielded ops a.tmps) = true
  · rw [if_pos hw] at h
    obtain ⟨v, h1, h2⟩ := h
    refine ⟨v, .inl ⟨hw, fun w hC => ?_⟩, h2⟩
    have h3 := h1 w hC
    unfold Oper.quietAt at h3
    have hn := plain_no (P := P) a.eval o hp w
    generalize (execOp a.eval o).run P w = r at *
    cases r with
    | ok n w' =>
      cases n <;> simp only [Oper.quietUpon] at h3
      case value u => obtain ⟨rfl, rfl⟩ := h3; exact .inl rfl
      case skip => obtain ⟨rfl, rfl⟩ := h3; exact .inr ⟨rfl, rfl⟩
      case enter f args => exact absurd rfl (hn _ f args)
    | halt x w' => simp only [Oper.quietUpon] at h3
  · rw [if_neg hw] at h
    exact ⟨undef, .inr ⟨by simpa using hw, rfl⟩, h⟩
def stepPost (Q : Exit → Act → World → Prop) (K : Act → World → Prop) : Exit → Act → World → Prop
  | .normal, a, w => K a w
  | .panic _, _, _ => False
  | e, a, w => Q e a w
theorem wp_post {o : Oper} {a : Act} {w : World} {K K' : Act → World → Prop} {Q Q' : Exit → Act → World → Prop} (hp : ∀ c a w, Q (.panic c) a w → Q' (.panic c) a w) (ho : LetsOut Q → LetsOut Q') (hk : ∀ a w, K a w → K' a w) (h : o.wp P a w K Q) : o.wp P a w K' Q' := by
  unfold Oper.wp at *
  generalize (execOp a.eval o).run P w = r at *
  cases r with
  | ok n w' =>
    cases n <;> simp only [Oper.upon] at h ⊢
    case value u => exact hk _ _ h
    case skip => exact hk _ _ h
    case defer d => exact hk _ _ h
    case enter f args =>
      refine Calls.mono h fun e w'' he => ?_
      cases e with
      | returned u => exact hk _ _ he
      | panicked c => exact hp _ _ _ he
      | outgrown => exact ho he
    case row row args => exact Rows.mono h fun u w'' he => hk _ _ he
  | halt x w' =>
    cases x <;> simp only [Oper.upon] at h ⊢
    case panic u => exact hp _ _ _ h
theorem wpOp_of_list {i : Nat} {o : Oper} (hi : ops[i]? = some o) {K : Act → World → Prop} {Q : Exit → Act → World → Prop} {a : Act} {w : World} (h : wpList P ops (stepPost Q K) [o] a w) : wpOp P ops (NoPanic Q) i K a w := by
  unfold wpOp
  simp only [hi]
  unfold wpList at h
  have ho : LetsOut (stepPost Q K) → LetsOut (NoPanic Q) := fun ⟨a, w, h⟩ => ⟨a, w, h⟩
  split
  · rename_i hw
    rw [if_pos hw] at h
    rcases h with h | ⟨h1, h2⟩
    · exact .inl (wp_post (fun _ _ _ h => h) ho (fun _ _ h => h) h)
    · exact .inr ⟨h1, ho h2⟩
  · rename_i hw
    rw [if_neg hw] at h
    exact h
theorem wpOp_putR {j : Nat} {oi oj : Oper} {v : Value} {S : World → Prop} {Q : Exit → Act → World → Prop} (hj : ops[j]? = some oj) (hap : oi.apart ops oj = true)
    (hsi : ∀ cs b, oi.op ≠ .select cs b) (hsj : ∀ cs b, oj.op ≠ .select cs b) {K : Act → World → Prop} {a : Act} {w : World}
    (hy : YieldsR P ops S oi v a) (h : wpOp P ops (NoPanic Q) j K (a.put oi.dst v) w) :
    wpOp P ops (NoPanic Q) j (fun a' w' => YieldsR P ops S oi v a' ∧ K (a'.put oi.dst v) w') a w := by
  obtain ⟨h1, h2, h3⟩ := Oper.apart_spec hap
  have keep : ∀ (a : Act), YieldsR P ops S oi v a → ∀ u, YieldsR P ops S oi v (a.put oj.dst u) := fun a hy u =>
    hy.of_same (execOp_put oi hsi a oj.dst u h3) (wanted_put oi a oj.dst u h3)
  have keepD : ∀ d, YieldsR P ops S oi v { a with defers := d :: a.defers } := fun d => hy.of_same rfl rfl
  unfold wpOp at *
  simp only [hj] at *
  rw [wanted_put oj a oi.dst v h1] at h
  split
  · rename_i hw
    simp only [hw, if_true] at h
    rcases h with h | ⟨hasks, hlets⟩
    case inr => exact .inr ⟨by unfold Oper.asks at *; rw [execOp_put oj hsj a oi.dst v h1] at hasks; exact hasks, hlets⟩
    refine .inl ?_
    unfold Oper.wp at *
    rw [execOp_put oj hsj a oi.dst v h1] at h
    generalize (execOp a.eval oj).run P w = r at *
    cases r with
    | ok n w' =>
      cases n <;> simp only [Oper.upon] at h ⊢
      case value u => exact ⟨keep a hy u, by rw [← Act.put_comm a v u h2]; exact h⟩
      case skip => exact ⟨keep a hy _, by rw [← Act.put_comm a v undef h2]; exact h⟩
      case defer d =>
        refine ⟨keep _ (keepD d) _, ?_⟩
        rw [← Act.put_comm _ v undef h2, ← Act.put_defers]
        exact h
      case enter f args =>
        refine Calls.mono h fun e w'' he => ?_
        cases e with
        | returned u => exact ⟨keep a hy u, by rw [← Act.put_comm a v u h2]; exact he⟩
        | panicked c => exact he
        | outgrown => exact he
      case row row args => exact Rows.mono h fun u w'' he => ⟨keep a hy u, by rw [← Act.put_comm a v u h2]; exact he⟩
    | halt x w' =>
      cases x <;> simp only [Oper.upon] at h ⊢
      case panic u => exact h
  · rename_i hw
    simp only [hw] at h
    exact ⟨keep a hy _, by rw [← Act.put_comm a v undef h2]; exact h⟩
structure InS (S : World → Prop) where
  val : World
  mem : S val
def pick (l : List Oper) : List Nat → List Oper
  | [] => []
  | k :: ks => l.getD k { dst := none, op := .move (.tmp 0), type := 0, pos := "", after := #[], guard := none } :: pick l ks
def pickB (l : List Oper) (ks : List Nat) : Bool := ks.all fun k => decide (k < l.length)
theorem pick_map (l : List Oper) : ∀ ks : List Nat, pickB l ks = true → (pick l ks).map some = ks.map (fun k => l.toArray[k]?)
  | [], _ => rfl
  | k :: ks, h => by
    simp only [pickB, List.all_cons, Bool.and_eq_true, decide_eq_true_eq] at h
    rw [pick, List.map_cons, List.map_cons, pick_map l ks h.2, List.getD_eq_getElem?_getD, List.getElem?_eq_getElem h.1]
    simp [h.1]
end
end Go.Proofs.YtbiioaggilaebaaGreatDoor.B
