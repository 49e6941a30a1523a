/- The walk of net.New. -/
import Derived.Test.YtpecclcihefbaaaNetE
import Derived.Deep.OwnRows
import Derived.Deep.RegionLaw
import Derived.Deep.DeepCutAuto
import Derived.Laws.OwnMore
set_option linter.unusedVariables false
set_option linter.unusedSimpArgs false
namespace Go.Proofs.Ytpecclcihefbaaa.NetA
open Go.RowKit Go.Proofs.Ytpecclcihefbaaa.B

theorem info48 : (Try.prog.info? 48).map (fun i => (i.zero, i.size, i.bytes)) = some (some (.slice none 0 0), 1, 24) := by kernel_rfl
theorem info49 : (Try.prog.info? 49).map (fun i => (i.zero, i.size, i.bytes)) = some (some (.pointer none), 1, 8) := by kernel_rfl

/-- The rows up to i are whole, row i up to j. -/
def Full (n i : Nat) (pt : Nat → Nat → Option Nat) : Prop := ∀ a j, a < i → j < n → (pt a j = none ↔ a = j)
def FullTo (i j : Nat) (pt : Nat → Nat → Option Nat) : Prop := (∀ k, k < j → (pt i k = none ↔ i = k)) ∧ ∀ k, j ≤ k → pt i k = none

theorem full_set {n k j : Nat} {pt : Nat → Nat → Option Nat} (hf : Full n k pt) (b : Nat) : Full n k (fun a c => if a = k ∧ c = j then some b else pt a c) := by
  intro a c ha hc
  simp only []
  rw [if_neg (by omega)]; exact hf a c ha hc
theorem fullTo_set {k j : Nat} {pt : Nat → Nat → Option Nat} (ht : FullTo k j pt) (hkj : k ≠ j) (b : Nat) : FullTo k (j + 1) (fun a c => if a = k ∧ c = j then some b else pt a c) := by
  refine ⟨fun a ha => ?_, fun a ha => ?_⟩
  · simp only [true_and]
    by_cases e : a = j
    · rw [if_pos e, e]; simp [hkj]
    · rw [if_neg e]; exact ht.1 a (by omega)
  · simp only [true_and]
    rw [if_neg (by omega)]; exact ht.2 a (by omega)

theorem madeN (m : Nat) : madeCells #[Value.pointer none] m = ptrs m fun _ => none := by
  unfold ptrs
  apply Array.ext'
  rw [toList_madeCells_one]
  apply List.ext_getElem?
  intro k
  rw [List.getElem?_replicate]
  simp only [List.getElem?_map]
  by_cases hk : k < m
  · rw [if_pos hk, List.getElem?_range hk]; rfl
  · rw [if_neg hk, List.getElem?_eq_none (by simp; omega)]; rfl

def Shape.all (σ : Shape) (k : Nat) : Prop := k = σ.nb ∨ k = σ.ob ∨ (∃ i, i < σ.n ∧ k = σ.ib i) ∨ σ.own k

def NewPost (w : World) (n : Nat) (e : Ending) (w' : World) : Prop :=
  ∃ σ : Shape, e = .returned (.tuple #[.pointer (some ⟨σ.nb, 0, none⟩), .nilIface]) ∧ σ.n = n ∧ NetQ w' σ (fun _ _ => []) ∧ Tch (fun _ => False) w w' ∧ ∀ k, σ.all k → w.heap.size ≤ k

theorem way_zero {w : World} {b : Nat} (h : w.heap[b]? = some (.cells zring 54 (0, 0))) : WayQ w b [] :=
  ⟨List.replicate 200 d0, 0, ⟨h, List.length_replicate, by omega, Nat.zero_le _⟩, fun k hk => absurd hk (Nat.not_lt_zero k)⟩

theorem made_new {w wr : World} {n : Nat} {v : Value} {ib : Nat → Nat} {pt : Nat → Nat → Option Nat} (h1 : 1 ≤ n) (h8 : n ≤ 8) (h : Made w wr n n v ib pt) (hf : Full n n pt) :
    NewPost w n (.returned (.tuple #[.pointer (some ⟨w.heap.size, 0, none⟩), .nilIface])) wr := by
  obtain ⟨g, cap, rfl, hg, hgl⟩ := h.own.form (by omega)
  have hp : ∀ i j, i < n → j < n → i ≠ j → pt i j = some ((pt i j).getD 0) := fun i j hi hj hn => by
    cases e : pt i j with
    | none => exact absurd ((hf i j hi hj).1 e) hn
    | some b => rfl
  refine ⟨⟨w.heap.size, g, cap, n, ib, fun i j => (pt i j).getD 0⟩, rfl, rfl, ⟨h8, ?_, ?_, ?_, ?_, ?_, ?_⟩, h.tch, ?_⟩
  · exact cell_of h.net 0
  · intro i hi
    have := h.own.cells (g := g) rfl i (.slice (some ⟨ib i, 0, none⟩) n n) (by
      have hi' : i < n := hi
      simp [rowsL, List.getElem?_range hi'])
    rwa [add0] at this
  · intro i j hi hj
    rw [cell_of (h.rows i hi) j]
    have hj' : j < n := hj
    simp only [ptrs, List.getElem?_toArray, List.getElem?_map, List.getElem?_range hj', Option.map_some]
    by_cases e : i = j
    · rw [if_pos e, (hf i j hi hj).2 e]; rfl
    · rw [if_neg e, hp i j hi hj e]; rfl
  · intro i j hi hj hn
    exact way_zero (h.ways i j _ hi hj (hp i j hi hj hn)).1
  · intro i j k hi hj hn
    obtain ⟨q1, q2, q3, q4⟩ := h.ways i j _ hi hj (hp i j hi hj hn)
    refine ⟨by show (pt i j).getD 0 ≠ w.heap.size; omega, fun e => q3 (by show some g = some ((pt i j).getD 0); rw [← show (pt i j).getD 0 = g from e]), fun hk => q4 k hk⟩
  · intro i j k l hi hj hn hk hl hkl e
    have e : (pt i j).getD 0 = (pt k l).getD 0 := e
    exact h.inj i j k l _ hi hj hk hl (hp i j hi hj hn) (by rw [e]; exact hp k l hk hl hkl)
  · intro k hk
    rcases hk with e | e | ⟨i, hi, e⟩ | ⟨i, j, hi, hj, hn, e⟩
    · rw [e]; exact Nat.le_refl _
    · rw [e]; show w.heap.size ≤ g; omega
    · rw [e]; have := (h.ibs i hi).1; show w.heap.size ≤ ib i; omega
    · rw [e]; have := (h.ways i j _ hi hj (hp i j hi hj hn)).2.1; show w.heap.size ≤ (pt i j).getD 0; omega

theorem gb_undrew {w w1 : World} {r : Option Nat} (h : w.drew.grownBy w1 r) : w.grownBy w1 r := ⟨h.os, h.tape, h.output, h.size, h.block⟩

set_option maxRecDepth 100000 in
set_option maxHeartbeats 1000000 in
theorem new_in (n : Nat) (w : World) (h1 : 1 ≤ n) (h8 : n ≤ 8) :
    Calls Try.prog 7 #[.int .i64 n] w (NewPost w n) := by
  have hmk : ∀ W : World, (Instr.makeSlice 48 (.int .i64 (n : Int)) (.int .i64 (n : Int))).run Try.prog W = .ok (.slice (some ⟨W.heap.size, 0, none⟩) n n) (W.alloc (.cells (ptrs n fun _ => none) 49)) := by
    intro W
    have := Go.run_make_row' (P := Try.prog) 48 49 (.pointer none) 8 Try.underlying48 info49 rfl .i64 .i64 n (by omega) (by omega) W
    rw [madeN] at this
    exact this
  obtain ⟨i0, hi0, hz0, hz1, hz2⟩ := info_parts info48
  have hz54 : ∀ W : World, (zeroValue 54).run Try.prog W = .ok (.agg zring) W := fun _ => by kernel_rfl
  have hst := Lib.hid (Made.start w n (fun _ => 0) (fun _ _ => none))
  go_enter Try.func7, Try.ntmps7
  go_wp2
  go_loopg [17] n (fun gk i wr => ∃ (k : Nat) (v : Value) (ib : Nat → Nat) (pt : Nat → Nat → Option Nat), gk = n - k ∧ k ≤ n ∧ i = .int .i64 k ∧ Made w wr n k v ib pt ∧ Full n k pt)
  case atStart => exact ⟨0, _, _, _, by omega, by omega, rfl, hst.out, fun a j h => by omega⟩
  case round =>
    clear hst
    obtain ⟨k, v, ib, pt, hgk, hk, rfl, hm, hf⟩ := hrel
    subst hgk
    by_cases hlt : k < n
    · have hmH := Lib.hid hm
      have hfH := Lib.hid hf
      have hown := Lib.hid hm.own
      have hv0 := cell_of hm.net 0
      have hfr := fr_of hm.net 0
      have hBl := heap_lt hm.net
      simp only [List.getElem?_toArray, List.getElem?_cons_zero] at hv0
      have hvl := fun g (e : v.ownBlock = some g) => (hm.own.lt g e)
      have hvne : some w.heap.size ≠ v.ownBlock := fun e => by have := (hvl _ e.symm).1; omega
      have hnews := Lib.hid (show (((wr.alloc (.cells (ptrs n fun _ => none) 49)).alloc (.cells #[.slice (some ⟨wr.heap.size, 0, none⟩) n n] 48)).drew).heap[wr.heap.size + 1]? = some (.cells #[.slice (some ⟨wr.heap.size, 0, none⟩) n n] 48) from by
        have := heap_alloc_at (wr.alloc (.cells (ptrs n fun _ => none) 49)) (.cells #[.slice (some ⟨wr.heap.size, 0, none⟩) n n] 48)
        rw [show (wr.alloc (.cells (ptrs n fun _ => none) 49)).heap.size = wr.heap.size + 1 from by simp] at this
        exact this)
      have hkeep := Lib.hid (show ∀ w1, (((wr.alloc (.cells (ptrs n fun _ => none) 49)).alloc (.cells #[.slice (some ⟨wr.heap.size, 0, none⟩) n n] 48)).drew).grownBy w1 v.ownBlock → w1.cell? ⟨w.heap.size, 0, none⟩ = some v ∧ w1.frozen? ⟨w.heap.size, 0, none⟩ = false from fun w1 hg => by
        refine ⟨?_, ?_⟩
        · rw [hg.cell_far _ (by simp; omega) hvne]
          show ((wr.alloc _).alloc _).cell? _ = _
          rw [World.cell?_alloc_lt _ _ _ (by simp; omega), World.cell?_alloc_lt _ _ _ (by simp; omega)]; exact hv0
        · rw [hg.frozen_far _ (by simp; omega) hvne]
          rw [← hfr]
          exact World.frozen?_of_block ((heap_alloc_lt _ _ _ (by simp; omega)).trans (heap_alloc_lt _ _ _ hBl)))
      have kA := Lib.hid (show ∀ o, (wr.alloc o).drew.cell? ⟨w.heap.size, 0, none⟩ = some v ∧ (wr.alloc o).drew.frozen? ⟨w.heap.size, 0, none⟩ = false from fun o =>
        ⟨(World.cell?_alloc_lt _ _ _ hBl).trans hv0, (World.frozen?_of_block (a := ⟨w.heap.size, 0, none⟩) (heap_alloc_lt wr o _ hBl)).trans hfr⟩)
      have kB := Lib.hid (show ∀ o o2, ((wr.alloc o).alloc o2).drew.cell? ⟨w.heap.size, 0, none⟩ = some v ∧ ((wr.alloc o).alloc o2).drew.frozen? ⟨w.heap.size, 0, none⟩ = false from fun o o2 =>
        ⟨(World.cell?_alloc_lt _ _ _ (by simp; omega)).trans (kA.out o).1, (World.frozen?_of_block (a := ⟨w.heap.size, 0, none⟩) (heap_alloc_lt (wr.alloc o) o2 _ (by simp; omega))).trans (kA.out o).2⟩)
      clear hm hf hvne hvl
      go_wp2
      go_cut [] (fun W => ∃ (g cap : Nat) (ib2 : Nat → Nat) (pt2 : Nat → Nat → Option Nat), Made w W n (k + 1) (.slice (some ⟨g, 0, none⟩) (k + 1) cap) ib2 pt2 ∧ Full n k pt2 ∧ FullTo k 0 pt2)
      case first =>
        go_region_law
          ((refine step_append_lies _ (by rfl) _ _ _ (by rfl) (w.heap.size + 1) 48 i0 _ 1 24 Try.underlying45 hi0 hz0 hz1 hz2 rfl (by omega) v k (rowsL n k ib) (by rfl) (hown.out.alloc _ |>.alloc _ |>.drew) ⟨wr.heap.size + 1, 0, none⟩ 1 1 [.slice (some ⟨wr.heap.size, 0, none⟩) n n] (by rfl) (by rfl) (World.news_of_block (cs := #[.slice (some ⟨wr.heap.size, 0, none⟩) n n]) (t := 48) (fr := (0, 0)) hnews.out) (by simp [Value.oneCell']) (by omega) (by unfold maxLen; omega) (by omega) (by simp; omega) (wr.heap.size + 1 + 1) (by simp) ?_; intro g cap w1 hown1 hgrow hat hlt2; obtain ⟨hk1, hk2⟩ := hkeep.out _ hgrow))
        all_goals (try go_wp2_with fail)
        all_goals go_meet
        all_goals
          refine ⟨g, cap, fun a => if a = k then wr.heap.size else ib a, fun a => if a = k then fun _ => none else pt a, hmH.out.row g cap wr.heap.size (.cells #[.slice (some ⟨wr.heap.size, 0, none⟩) n n] 48) rfl hown1 (gb_undrew hgrow) hat, ?_, ⟨fun j hj => by omega, fun j _ => by simp⟩⟩
          intro a j ha hj
          simp only [if_neg (show ¬ a = k from by omega)]; exact hfH.out a j ha hj
      case rest =>
        clear hown hmH hfH hnews hkeep kA kB hv0 hfr hBl hmk hi0 hz0 hz1 hz2
        obtain ⟨g, cap, ib2, pt2, hm, hf, ht⟩ := hcut
        have hm1 := Lib.hid hm
        have hf1 := Lib.hid hf
        have ht1 := Lib.hid ht
        clear hm hf ht
        go_wp2
        go_loopg [32] n (fun gi i wi => ∃ (j : Nat) (pt2 : Nat → Nat → Option Nat), gi = n - j ∧ j ≤ n ∧ i = .int .i64 j ∧ Made w wi n (k + 1) (.slice (some ⟨g, 0, none⟩) (k + 1) cap) ib2 pt2 ∧ Full n k pt2 ∧ FullTo k j pt2)
        case atStart => exact ⟨0, pt2, by omega, by omega, rfl, hm1.out, hf1.out, ht1.out⟩
        case round =>
          clear hm1 hf1 ht1
          obtain ⟨j, pt3, hgj, hj, rfl, hm, hf, ht⟩ := hrel
          subst hgj
          by_cases hjl : j < n
          · by_cases hkj : k = j
            · have hmH := Lib.hid hm
              have hfH := Lib.hid hf
              have htH := Lib.hid ht
              clear hm hf ht
              go_wp2
              go_roundg (n - (j + 1))
              case measure => omega
              case rel =>
                exact ⟨j + 1, pt3, rfl, by omega, by go_num, hmH.out, hfH.out, ⟨fun a ha => by
                  by_cases e : a = j
                  · rw [e]; exact ⟨fun _ => hkj, fun _ => htH.out.2 j (Nat.le_refl _)⟩
                  · exact htH.out.1 a (by omega), fun a ha => htH.out.2 a (by omega)⟩⟩
            · have hv0 := cell_of hm.net 0
              have hv1 := hm.own.cells (g := g) rfl k (.slice (some ⟨ib2 k, 0, none⟩) n n) (by simp [rowsL])
              rw [add0] at hv1
              have hrow := cell_of (hm.rows k (by omega)) j
              have hfr := fr_of (hm.rows k (by omega)) j
              have hBl := heap_lt hm.net
              have hrl := heap_lt (hm.rows k (by omega))
              simp only [List.getElem?_toArray, List.getElem?_cons_zero] at hv0
              rw [show (ptrs n (pt3 k))[j]? = some (.pointer none) from by
                unfold ptrs
                rw [List.getElem?_toArray, List.getElem?_map, List.getElem?_range hjl]
                simp [ht.2 j (by omega)]] at hrow
              have hmH := Lib.hid hm
              have hfH := Lib.hid hf
              have htH := Lib.hid ht
              have hR := Lib.hid (hm.way j hjl)
              clear hm hf ht
              go_wp2
              go_roundg (n - (j + 1))
              case measure => omega
              case rel =>
                exact ⟨j + 1, _, rfl, by omega, by go_num, hR.out, full_set hfH.out _, fullTo_set htH.out hkj _⟩
          · have hjn : j = n := by omega
            subst hjn
            have hmH := Lib.hid hm
            have hfH := Lib.hid (show Full j (k + 1) pt3 from fun a b ha hb => by
              by_cases e : a = k
              · subst e; exact ht.1 b hb
              · exact hf a b (by omega) hb)
            clear hm hf ht
            go_wp2
            go_roundg (j - (k + 1))
            case measure => omega
            case rel => exact ⟨k + 1, _, _, _, rfl, by omega, by go_num, hmH.out, hfH.out⟩
    · have hkn : k = n := by omega
      subst hkn
      have hF := Lib.hid (made_new h1 h8 hm hf)
      clear hm hf
      go_wp2
      go_ret2
      exact hF.out
end Go.Proofs.Ytpecclcihefbaaa.NetA
