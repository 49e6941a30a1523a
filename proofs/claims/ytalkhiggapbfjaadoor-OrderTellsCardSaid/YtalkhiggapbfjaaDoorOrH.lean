/- order.Heads: its walk; the keys of a map, sorted. -/
import Derived.Test.YtalkhiggapbfjaaDoorOrN
import Derived.Test.YtalkhiggapbfjaaDoorIter
import Derived.Sort.KeysCollected
import Derived.OwnWalkIn
import Derived.TacticsInMore
set_option linter.unusedVariables false
set_option linter.unusedSimpArgs false
namespace Go.Proofs.YtalkhiggapbfjaaDoor.Mp
open Go Go.Maps Go.Sort
theorem sk_str {H : Type} {P : Program} {k : TypeId} {R : Value → Option (DataW H × List MemPlace)} {w : World} {b n : Nat} {D : DataW H} (h : w.ownsMap P k R b n D) (hk : P.underlying k = some .string) : ∃ es, D = .map es ∧ es.Pairwise (fun p q => p.1 ≠ q.1) ∧ ∀ p ∈ es, ∃ x, p.1 = .string x := by
  obtain ⟨es, rfl, hp, _⟩ := h.entries (string_keyed hk)
  obtain ⟨es', e, hks⟩ := h.keysOf
  cases e
  refine ⟨es, rfl, hp, fun p hpm => ?_⟩
  obtain ⟨v, hv⟩ := hks p hpm
  obtain ⟨x, _, e, _⟩ := keyOf_str hk hv
  exact ⟨x, e⟩
theorem sk_mem {H : Type} {P : Program} {k : TypeId} {R : Value → Option (DataW H × List MemPlace)} {w : World} {b n : Nat} {D : DataW H} (h : w.ownsMap P k R b n D) (hk : P.underlying k = some .string) (x : List UInt8) : x ∈ strKeys D ↔ has D (.string x) = true := by
  obtain ⟨es, rfl, _, hs⟩ := sk_str h hk
  show x ∈ es.map (fun p => strOf p.1) ↔ es.any (fun p => p.1.sameKey (.string x)) = true
  rw [List.mem_map, List.any_eq_true]
  constructor
  · rintro ⟨p, hp, rfl⟩
    obtain ⟨y, hy⟩ := hs p hp
    exact ⟨p, hp, by rw [hy]; simp [strOf, Lit.sameKey]⟩
  · rintro ⟨p, hp, e⟩
    obtain ⟨y, hy⟩ := hs p hp
    rw [hy] at e
    exact ⟨p, hp, by rw [hy]; simpa [strOf, Lit.sameKey] using e⟩
theorem sk_nodup {H : Type} {P : Program} {k : TypeId} {R : Value → Option (DataW H × List MemPlace)} {w : World} {b n : Nat} {D : DataW H} (h : w.ownsMap P k R b n D) (hk : P.underlying k = some .string) : (strKeys D).Nodup := by
  obtain ⟨es, rfl, hp, hs⟩ := sk_str h hk
  show (es.map (fun p => strOf p.1)).Nodup
  refine List.pairwise_map.2 ?_
  refine List.Pairwise.imp_of_mem (fun {p q} hpm hqm hne e => ?_) hp
  obtain ⟨y, hy⟩ := hs p hpm
  obtain ⟨z, hz⟩ := hs q hqm
  rw [hy, hz] at hne e
  exact hne (by simpa [strOf] using e)
end Go.Proofs.YtalkhiggapbfjaaDoor.Mp
namespace Go.Proofs.YtalkhiggapbfjaaDoor.Orp
open Go Go.RowKit Go.Sort Go.Proofs.YtalkhiggapbfjaaDoor.B Go.Proofs.YtalkhiggapbfjaaDoor.St Go.Proofs.YtalkhiggapbfjaaDoor.Mp
/-- A row of texts that rise: those of S. -/
def Rising (base : Nat) (w : World) (v : Value) (S : ByteArray → Prop) : Prop := ∃ l, SRow base w v l ∧ SS (toL l) ∧ ∀ s, s ∈ l ↔ S s
def KeysPost (w : World) (f : ByteArray → Option Value) (e : Ending) (w' : World) : Prop := ∃ v, e = .returned v ∧ Rising w.heap.size w' v (fun s => (f s).isSome = true) ∧ Below w.heap.size w w'
theorem ss_of {ss : List (List UInt8)} (hn : ss.Nodup) : SS (ss.mergeSort fun x y => decide (x ≤ y)) := by
  have hp := List.mergeSort_perm ss (fun x y => decide (x ≤ y))
  have hs := sortL_le ss
  unfold sortL at hs
  have hn' := hp.nodup_iff.2 hn
  exact (hs.and hn').imp fun ⟨h1, h2⟩ => lt_of_le_ne h1 h2
theorem keys_row {b n : Nat} {w w0 : World} {f : ByteArray → Option Value} {D : DataW Value} {v : Value} {ss : List (List UInt8)} (hown : w0.ownsMap Tryd.prog 9 hE b n D) (hv : View slit D f) (hp : ss.Perm (strKeys D)) {base : Nat} (hr : w.ownsRow base 9 1 v ss.length ((ss.mergeSort (fun x y => decide (x ≤ y))).map encStr)) : Rising base w v (fun s => (f s).isSome = true) := by
  have hnd := hp.nodup_iff.2 (sk_nodup hown Tryd.underlying9)
  refine ⟨ofL (ss.mergeSort fun x y => decide (x ≤ y)), ?_, by rw [toL_ofL]; exact ss_of hnd, fun s => ?_⟩
  · unfold SRow
    rw [ofL_len, List.length_mergeSort]
    have e : (ofL (ss.mergeSort fun x y => decide (x ≤ y))).map (fun s => Value.string s) = (ss.mergeSort fun x y => decide (x ≤ y)).map encStr := by unfold ofL; rw [List.map_map]; rfl
    rw [e]
    exact hr
  · rw [mem_ofL, List.mem_mergeSort, hp.mem_iff, sk_mem hown Tryd.underlying9]
    exact (hv s).1 ▸ Iff.rfl
/-- slices.Sorted(maps.Keys(m)), both calls. -/
theorem keysFn_c (mb : Nat) (w : World) : Calls Tryd.prog 28 #[.map (some mb)] w fun e w' => e = .returned (.func (.func 47) #[] #[.pointer (some ⟨w.heap.size, 0, none⟩)]) ∧ w' = w.alloc (.cells #[.map (some mb)] 60) := by
  refine (callsIn_wide (n := 5)).1 ?_
  exact Tryd.maps_Keys_28 (some mb) w
theorem sorted_c {b n : Nat} {f : ByteArray → Option Value} {w : World} (h : GMap slit w Tryd.prog 9 b n f) (hn : n ≤ 1000000) : Calls Tryd.prog 27 #[.func (.func 47) #[] #[.pointer (some ⟨w.heap.size, 0, none⟩)]] (w.alloc (.cells #[.map (some b)] 60)) (KeysPost (w.alloc (.cells #[.map (some b)] 60)) f) := by
  obtain ⟨D, hown, hv⟩ := h
  have hs := hown.size_le
  refine (callsIn_wide (n := 5)).1 ?_
  refine (Tryd.slices_Sorted_keys_27_28 b n D hE w hown (by unfold maxLen; omega) (by omega)).mono ?_
  rintro e w' ⟨v, ss, rfl, hp, hr, _, hb⟩
  exact ⟨v, rfl, keys_row hown hv hp hr, hb⟩
end Go.Proofs.YtalkhiggapbfjaaDoor.Orp
