/- The document's Past of layer 6. -/
import Derived.Test.YtalkhiggapbfjaaDoorOrZ
set_option linter.unusedVariables false
set_option linter.unusedSimpArgs false
namespace Go.Proofs.YtalkhiggapbfjaaDoor.Orp
open Go Go.RowKit Go.Proofs.YtalkhiggapbfjaaDoor.B Go.Proofs.YtalkhiggapbfjaaDoor.St Go.Proofs.YtalkhiggapbfjaaDoor.Mp
open Go.Proofs.YtalkhiggapbfjaaDoor.Hp (ltB le tob ltB_iff)
/-- All that is reached is in l, where l holds what its members and the first need. -/
theorem past_done {zs : List Nx} {nm : ByteArray} {l : List ByteArray} (h : ∀ z ∈ zs, (z.nm = nm ∨ z.nm ∈ l) → ∀ d ∈ z.deps, d ∈ names zs → d ∈ l) (y : ByteArray) (hr : Reach (nds zs) nm y) : y ∈ l := by
  have cl : ∀ c, (c = nm ∨ c ∈ l) → Closed (nds zs) (fun s => s ∈ l) c := by
    intro c hc x hx e d hd ht
    obtain ⟨z, hz, rfl⟩ := nds_nd hx
    have e' : z.nm = c := e
    exact h z hz (e' ▸ hc) d hd (there_names.1 ht)
  exact reach_of_closed (cl nm (.inl rfl)) (fun c hc => cl c (.inr hc)) hr
theorem reach_step {zs : List Nx} {nm d : ByteArray} {l : List ByteArray} {x : Nx} (hl : ∀ y ∈ l, Reach (nds zs) nm y) (hx : x ∈ zs) (hc : x.nm = nm ∨ x.nm ∈ l) (hd : d ∈ x.deps) (ht : d ∈ names zs) : Reach (nds zs) nm d := by
  have hm : x.nd ∈ nds zs := List.mem_map.2 ⟨x, hx, rfl⟩
  rcases hc with e | hc
  · exact .base x.nd d hm e hd (there_names.2 ht)
  · exact .step x.nm x.nd d (hl _ hc) hm rfl hd (there_names.2 ht)
/-- The last loop done: longer than before. -/
theorem past_longer {l l' mo : List ByteArray} (hl : l.Nodup) (h : ∀ y, y ∈ l' ↔ y ∈ l ∨ y ∈ mo) {a : ByteArray} (ha : a ∈ mo) (hn : a ∉ l) : l.length + 1 ≤ l'.length := by
  have := subset_len (l := a :: l) (m := l') (List.nodup_cons.2 ⟨hn, hl⟩) fun y hy => by
    rcases List.mem_cons.1 hy with rfl | hy
    · exact (h _).2 (.inr ha)
    · exact (h y).2 (.inl hy)
  simpa using this
/-- Between the patches of a round. -/
structure PaI (zs : List Nx) (nm : ByteArray) (l : List ByteArray) (i : Nat) (mo : List ByteArray) : Prop where
  ss : SS (toL mo)
  re : ∀ y ∈ mo, Reach (nds zs) nm y ∧ y ∉ l
  al : ∀ z ∈ zs.take i, (z.nm = nm ∨ z.nm ∈ l) → ∀ d ∈ z.deps, d ∈ names zs → d ∈ l ∨ d ∈ mo
theorem PaI.len {zs : List Nx} {nm : ByteArray} {l mo : List ByteArray} {i : Nat} (h : PaI zs nm l i mo) : mo.length ≤ zs.length := by
  have := subset_len (m := names zs) (ss_nodup h.ss) fun y hy => there_names.1 (h.re y hy).1.there
  unfold names at this
  rwa [List.length_map] at this
/-- .. between the needs of a patch. -/
structure PaJ (zs : List Nx) (nm : ByteArray) (l : List ByteArray) (i : Nat) (x : Nx) (k : Nat) (mo : List ByteArray) : Prop where
  pi : PaI zs nm l i mo
  dn : ∀ d ∈ x.deps.take k, d ∈ names zs → d ∈ l ∨ d ∈ mo
theorem PaJ.skip {zs : List Nx} {nm d : ByteArray} {l mo : List ByteArray} {i k : Nat} {x : Nx} (h : PaJ zs nm l i x k mo) (htk : x.deps.take (k + 1) = x.deps.take k ++ [d]) (hd : d ∈ names zs → d ∈ l) : PaJ zs nm l i x (k + 1) mo :=
  ⟨h.pi, fun y hy ht => by
    rw [htk] at hy
    rcases List.mem_append.1 hy with hy | hy
    · exact h.dn y hy ht
    · rw [List.mem_singleton.1 hy] at ht ⊢; exact .inl (hd ht)⟩
theorem PaJ.add {zs : List Nx} {nm d : ByteArray} {l mo mo' : List ByteArray} {i k : Nat} {x : Nx} (h : PaJ zs nm l i x k mo) (htk : x.deps.take (k + 1) = x.deps.take k ++ [d]) (hs : SS (toL mo')) (hm : ∀ y, y ∈ mo' ↔ y = d ∨ y ∈ mo) (hr : Reach (nds zs) nm d) (hn : d ∉ l) : PaJ zs nm l i x (k + 1) mo' :=
  ⟨⟨hs, fun y hy => by
    rcases (hm y).1 hy with rfl | hy
    · exact ⟨hr, hn⟩
    · exact h.pi.re y hy, fun z hz hc e he ht => (h.pi.al z hz hc e he ht).imp id fun k => (hm e).2 (.inr k)⟩, fun y hy ht => by
    rw [htk] at hy
    rcases List.mem_append.1 hy with hy | hy
    · exact (h.dn y hy ht).imp id fun k => (hm y).2 (.inr k)
    · rw [List.mem_singleton.1 hy]; exact .inr ((hm d).2 (.inl rfl))⟩
theorem PaJ.done {zs : List Nx} {nm : ByteArray} {l mo : List ByteArray} {i : Nat} {x : Nx} (h : PaJ zs nm l i x x.deps.length mo) (htk : zs.take (i + 1) = zs.take i ++ [x]) : PaI zs nm l (i + 1) mo :=
  ⟨h.pi.ss, h.pi.re, fun z hz hc d hd ht => by
    rw [htk] at hz
    rcases List.mem_append.1 hz with hz | hz
    · exact h.pi.al z hz hc d hd ht
    · rw [List.mem_singleton.1 hz] at hd
      exact h.dn d (by rw [List.take_of_length_le (Nat.le_refl _)]; exact hd) ht⟩
theorem PaI.skip {zs : List Nx} {nm : ByteArray} {l mo : List ByteArray} {i : Nat} {x : Nx} (h : PaI zs nm l i mo) (htk : zs.take (i + 1) = zs.take i ++ [x]) (hc : ¬ (x.nm = nm ∨ x.nm ∈ l)) : PaI zs nm l (i + 1) mo :=
  ⟨h.ss, h.re, fun z hz hc' d hd ht => by
    rw [htk] at hz
    rcases List.mem_append.1 hz with hz | hz
    · exact h.al z hz hc' d hd ht
    · rw [List.mem_singleton.1 hz] at hc'
      exact absurd hc' hc⟩
end Go.Proofs.YtalkhiggapbfjaaDoor.Orp
