/- The walks of package net: pop. -/
import Derived.Test.YtpecclcihefbaaaNetA
set_option linter.unusedVariables false
set_option linter.unusedSimpArgs false
namespace Go.Proofs.Ytpecclcihefbaaa.NetA
open Go.RowKit Go.Proofs.Ytpecclcihefbaaa.B

def PopPost (w : World) (b : Nat) (x : Tx) (r : List Tx) (e : Ending) (w' : World) : Prop :=
  e = .returned (.agg #[.string x.1, .bool x.2]) ∧ WayQ w' b r ∧ Tch (fun k => k = b) w w'

set_option maxHeartbeats 400000 in
theorem pop_any (b : Nat) (x : Tx) (r : List Tx) (w : World) (h : WayQ w b (x :: r)) :
    Calls Try.prog 21 #[.pointer (some ⟨b, 0, none⟩)] w (PopPost w b x r) := by
  have hle := h.le
  have hlb := h.lt
  obtain ⟨L, first, hr, hq⟩ := h
  have hfl := hr.fl
  have hx : L.getD first d0 = x := by
    have := hq 0 (by simp)
    rw [show (first + 0) % 200 = first from by omega] at this
    simpa using this
  have hs := ring_s hr first hfl
  have ho := ring_o hr first hfl
  have hf := ring_first hr
  have hn := ring_n hr
  rw [hx] at hs ho
  have f1 := fr_of hr.blk (first * 2)
  have f2 := fr_of hr.blk (first * 2 + 1)
  have f3 := fr_of hr.blk 400
  have f4 := fr_of hr.blk 401
  simp only [List.length_cons] at hle hn
  have Fin : ∀ o1 o2 : Obj, PopPost w b x r (.returned (.agg #[.string x.1, .bool x.2])) ((((((w.setCell ⟨b, first * 2, none⟩ (.string ⟨#[]⟩)).setCell ⟨b, first * 2 + 1, none⟩ (.bool false)).setCell ⟨b, 400, none⟩ (.int .i64 (((first : Int) + 1) % 200))).setCell ⟨b, 401, none⟩ (.int .i64 r.length)).alloc o1).alloc o2).drew.drew := by
    intro o1 o2
    refine ⟨rfl, ?_, ?_⟩
    · refine ⟨L.set first d0, (first + 1) % 200, ⟨?_, by simp [hr.len], Nat.mod_lt _ (by omega), by omega⟩, q_pop (q := x :: r) _ hr.len hfl (by simp) (by simpa using hle) hq⟩
      have h1 := heap_set_some (heap_set_some (heap_set_some (heap_set_some hr.blk (first * 2) (.string d0.1)) (first * 2 + 1) (.bool d0.2)) 400 (.int .i64 (((first : Int) + 1) % 200))) 401 (.int .i64 r.length)
      rw [ringA_set _ _ _ _ d0 (by rw [hr.len]; exact hfl), show (((first : Int) + 1) % 200) = (((first + 1) % 200 : Nat) : Int) from by omega, ringA_first _ _ _ _ (by simp [hr.len]), ringA_n _ _ _ _ (by simp [hr.len])] at h1
      rw [show ((((first + 1) % 200 : Nat)) : Int) = ((first : Int) + 1) % 200 from by omega] at h1
      have h2 := (heap_alloc_lt _ o1 _ (heap_lt h1)).trans h1
      exact (heap_alloc_lt _ o2 _ (heap_lt h2)).trans h2
    · exact ((((((((Tch.refl (fun k => k = b) w).setCell ⟨b, _, none⟩ (fun _ => rfl) _).setCell ⟨b, _, none⟩ (fun _ => rfl) _).setCell ⟨b, _, none⟩ (fun _ => rfl) _).setCell ⟨b, _, none⟩ (fun _ => rfl) _).alloc o1).alloc o2).drew).drew
  have FinH := Lib.hid Fin
  clear Fin hr hq hx
  go_enter Try.func21, Try.ntmps21
  go_wp2
  go_region
  all_goals go_wp2
  all_goals go_region
  all_goals go_wp2
  all_goals refine bodyPost_ret (v := .agg #[.string x.1, .bool x.2]) (by simp [results, Try.results21, go_sem]) rfl (FinH.out _ _)

end Go.Proofs.Ytpecclcihefbaaa.NetA
