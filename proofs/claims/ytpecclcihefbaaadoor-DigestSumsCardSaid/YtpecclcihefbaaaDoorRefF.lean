/- The walk of the reference's primes. -/
import Derived.Test.YtpecclcihefbaaaDoorRefE
import Derived.Deep.AppendLies
set_option linter.unusedVariables false
set_option linter.unusedSimpArgs false
namespace Go.Proofs.YtpecclcihefbaaaDoor.Ref
open Go.RowKit Go.Proofs.YtpecclcihefbaaaDoor.B

def ic (l : List Nat) : List Value := l.map fun x => .int .i64 ((x : Nat) : Int)
theorem ic_get (l : List Nat) (i : Nat) (h : i < l.length) : (ic l)[i]? = some (.int .i64 ((l.getD i 0 : Nat) : Int)) := by
  simp [ic, List.getD_eq_getElem?_getD, List.getElem?_eq_getElem h]
theorem ic_append (a b : List Nat) : ic (a ++ b) = ic a ++ ic b := List.map_append ..
def RowI (w : World) (v : Value) (l : List Nat) : Prop := ∃ g cap, v = .slice (some ⟨g, 0, none⟩) l.length cap ∧ ∀ k, k < l.length → w.cell? ⟨g, k, none⟩ = some (.int .i64 ((l.getD k 0 : Nat) : Int))
theorem infoInt : (Tryd.prog.info? 3).map (fun i => (i.zero, i.size, i.bytes)) = some (some (.int .i64 0), 1, 8) := by kernel_rfl
theorem own_cells {w : World} {base : Nat} {g cap : Nat} {l : List Nat} (h : w.ownsRow base 3 1 (.slice (some ⟨g, 0, none⟩) l.length cap) l.length (ic l)) :
    ∀ k, k < l.length → w.cell? ⟨g, k, none⟩ = some (.int .i64 ((l.getD k 0 : Nat) : Int)) := by
  intro k hk
  rw [h.cellAt k (by omega), ic_get l k hk]
theorem any_next (l : List Nat) (k j : Nat) (h : j < l.length) : (l.take (j + 1)).any (fun d => k % d == 0) = ((l.take j).any (fun d => k % d == 0) || (k % l.getD j 0 == 0)) := by
  rw [List.take_add_one, List.any_append, List.getD_eq_getElem?_getD, List.getElem?_eq_getElem h]
  simp
theorem pst_app {w w0 w1 : World} {g cap t : Nat} {v : Value} (ho : w.ownsRow w0.heap.size 3 1 v (pst t).length (ic (pst t))) (ha : (pst t).any (fun d => (t + 2) % d == 0) = false) (ht : Tch (fun _ => False) w0 w)
    (o : Obj) (h1 : w1.ownsRow w0.heap.size 3 1 (.slice (some ⟨g, 0, none⟩) ((pst t).length + 1) cap) ((pst t).length + 1) (ic (pst t) ++ [.int .i64 ((t : Int) + 2)])) (h2 : (w.alloc o).grownBy w1 v.ownBlock) :
    w1.ownsRow w0.heap.size 3 1 (.slice (some ⟨g, 0, none⟩) ((pst t).length + 1) cap) (pst (t + 1)).length (ic (pst (t + 1))) ∧ Tch (fun _ => False) w0 w1 := by
  have e : pst (t + 1) = pst t ++ [t + 2] := by rw [pst, pstep, if_neg (by rw [ha]; decide)]
  rw [e, List.length_append, ic_append]
  exact ⟨h1, own_tch (ht.alloc _) (ho.alloc _) (Nat.le_refl _) h2⟩

set_option maxRecDepth 100000 in
set_option maxHeartbeats 4000000 in
theorem primes_any (n T : Nat) (hn : 1 ≤ n) (hn1 : n ≤ 100) (hT : T ≤ 400) (h1 : ∀ t, t < T → (pst t).length < n) (h2 : (pst T).length = n) (w : World) :
    Calls Tryd.prog 52 #[.int .i64 (n : Int)] w fun e w' => ∃ v, e = .returned v ∧ RowI w' v (pst T) ∧ Tch (fun _ => False) w w' := by
  obtain ⟨i3, hi3, hz3, hs3, hb3⟩ := info_parts infoInt
  have h1H := Lib.hid h1
  have h2H := Lib.hid h2
  have hst := Lib.hid (show w.ownsRow w.heap.size 3 1 (.slice none 0 0) (pst 0).length (ic (pst 0)) from ⟨rfl, .inl ⟨rfl, rfl⟩⟩)
  clear h1 h2
  go_enter Tryd.func52, Tryd.ntmps52
  go_wp2_with fail
  go_loopg [3, 4] T (fun g v kv W => ∃ t : Nat, g = T - t ∧ t ≤ T ∧ kv = .int .i64 ((t : Int) + 2) ∧ W.ownsRow w.heap.size 3 1 v (pst t).length (ic (pst t)) ∧ Tch (fun _ => False) w W)
  case atStart => exact ⟨0, rfl, by omega, rfl, hst.out, Tch.refl _ _⟩
  case round =>
    clear hst
    obtain ⟨t, hg, ht, rfl, ho, htc⟩ := hrel
    subst hg
    by_cases htl : t < T
    · have hlt := h1H.out t htl
      have hlti : ((pst t).length : Int) < (n : Int) := by omega
      have hti : (t : Int) < 400 := by omega
      have hsm := Lib.hid (pst_small t)
      have hoH := Lib.hid ho
      have htcH := Lib.hid htc
      rcases ho.2 with ⟨hv, hl0⟩ | ⟨gv, cv, cur, hv, _, _, _, _, _, _⟩
      · subst hv
        clear htc
        have hap := Lib.hid (fun g cap w1 o ha h1 h2 => pst_app (w1 := w1) (g := g) (cap := cap) hoH.out ha htcH.out o h1 h2)
        have hownH := hoH
        have hlti' : (0 : Int) < (n : Int) := by omega
        replace hl0 := Lib.hid hl0
        clear hlti
        clear ho
        go_wp2_with fail
        go_loopg [5, 6] (pst t).length (fun g iv jv W => ∃ j : Nat, g = (pst t).length - j ∧ j ≤ (pst t).length ∧ iv = .bool (!((pst t).take j).any (fun d => (t + 2) % d == 0)) ∧ jv = .int .i64 j ∧ W = wr)
        case atStart => exact ⟨0, rfl, by omega, rfl, rfl, rfl⟩
        case round =>
          obtain ⟨j, hgj, hj, rfl, rfl, rfl⟩ := hrel
          subst hgj
          by_cases hjl : j < (pst t).length
          · exact absurd hjl (by have := hl0.out; omega)
          · have hje : j = (pst t).length := by omega
            subst hje
            rw [List.take_of_length_le (Nat.le_refl _)]
            cases hA : (pst t).any (fun d => (t + 2) % d == 0)
            · have hap2 := Lib.hid (fun g cap w1 o h1 h2 => hap.out g cap w1 o hA h1 h2)
              clear hA
              go_wp2_with (at_builtin; refine wpList_append_lies _ (by rfl) _ _ _ (by rfl) w.heap.size 3 i3 _ 1 8 Tryd.underlying75 hi3 hz3 hs3 hb3 rfl (by omega) (.slice none 0 0) (pst t).length _ (by rfl) (hownH.out.alloc _) ⟨wr.heap.size, 0, none⟩ 1 1 [.int .i64 ((t : Int) + 2)] (by rfl) (by rfl) (World.news_of_block (heap_alloc_at wr _)) (by simp [Value.oneCell']) (by omega) (by unfold maxLen; omega) (by omega) (by simp; have := htcH.out.size; omega) (wr.heap.size + 1) (by simp) ?_; intro g cap w1 hown1 hgrow hat hlt)
              go_roundg (T - (t + 1))
              case measure => omega
              case rel => exact ⟨t + 1, rfl, by omega, by go_num, hap2.out _ _ _ _ hown1 hgrow⟩
            · have e := Lib.hid (show pst (t + 1) = pst t from by rw [pst, pstep, if_pos hA])
              clear hA
              go_wp2_with fail
              go_roundg (T - (t + 1))
              case measure => omega
              case rel => exact ⟨t + 1, rfl, by omega, by go_num, by rw [e.out]; exact hownH.out, htcH.out⟩
      · subst hv
        clear htc
        have hap := Lib.hid (fun g cap w1 o ha h1 h2 => pst_app (w1 := w1) (g := g) (cap := cap) hoH.out ha htcH.out o h1 h2)
        have hownH := hoH
        have hcs := Lib.hid (own_cells ho)
        clear ho
        go_wp2_with fail
        go_loopg [5, 6] (pst t).length (fun g iv jv W => ∃ j : Nat, g = (pst t).length - j ∧ j ≤ (pst t).length ∧ iv = .bool (!((pst t).take j).any (fun d => (t + 2) % d == 0)) ∧ jv = .int .i64 j ∧ W = wr)
        case atStart => exact ⟨0, rfl, by omega, rfl, rfl, rfl⟩
        case round =>
          obtain ⟨j, hgj, hj, rfl, rfl, rfl⟩ := hrel
          subst hgj
          by_cases hjl : j < (pst t).length
          · have hc := hcs.out j hjl
            have hd := hsm.out ((pst t).getD j 0) (by rw [List.getD_eq_getElem?_getD, List.getElem?_eq_getElem hjl]; exact List.getElem_mem hjl)
            have hnx := Lib.hid (any_next (pst t) (t + 2) j hjl)
            have hjli : (j : Int) < ((pst t).length : Int) := by omega
            generalize hdd : (pst t).getD j 0 = d at *
            have hd2 : (2 : Int) ≤ (d : Int) := by omega
            have hd3 : (d : Int) < 402 := by omega
            have hmod : ((t : Int) + 2) % (d : Int) = (((t + 2) % d : Nat) : Int) := (Int.natCast_emod (t + 2) d).symm
            clear hdd
            generalize hA : ((pst t).take j).any (fun d => (t + 2) % d == 0) = A at *
            by_cases hz : (t + 2) % d = 0
            · have hz0 : ((t : Int) + 2) % (d : Int) = 0 := by omega
              replace hz := Lib.hid hz
              clear hmod hA
              go_wp2_with fail
              go_roundg ((pst t).length - (j + 1))
              case measure => omega
              case rel => exact ⟨j + 1, rfl, by omega, by rw [hnx.out, hz.out]; simp, by go_num, rfl⟩
            · have hz0 : ¬ ((t : Int) + 2) % (d : Int) = 0 := by omega
              replace hz := Lib.hid hz
              clear hmod hA
              go_wp2_with fail
              go_roundg ((pst t).length - (j + 1))
              case measure => omega
              case rel => exact ⟨j + 1, rfl, by omega, by rw [hnx.out, beq_eq_false_iff_ne.2 hz.out]; simp, by go_num, rfl⟩
          · have hje : j = (pst t).length := by omega
            subst hje
            rw [List.take_of_length_le (Nat.le_refl _)]
            cases hA : (pst t).any (fun d => (t + 2) % d == 0)
            · have hap2 := Lib.hid (fun g cap w1 o h1 h2 => hap.out g cap w1 o hA h1 h2)
              clear hA
              go_wp2_with (at_builtin; refine wpList_append_lies _ (by rfl) _ _ _ (by rfl) w.heap.size 3 i3 _ 1 8 Tryd.underlying75 hi3 hz3 hs3 hb3 rfl (by omega) (.slice (some ⟨gv, 0, none⟩) (pst t).length cv) (pst t).length _ (by rfl) (hownH.out.alloc _) ⟨wr.heap.size, 0, none⟩ 1 1 [.int .i64 ((t : Int) + 2)] (by rfl) (by rfl) (World.news_of_block (heap_alloc_at wr _)) (by simp [Value.oneCell']) (by omega) (by unfold maxLen; omega) (by omega) (by simp; have := htcH.out.size; omega) (wr.heap.size + 1) (by simp) ?_; intro g cap w1 hown1 hgrow hat hlt)
              go_roundg (T - (t + 1))
              case measure => omega
              case rel => exact ⟨t + 1, rfl, by omega, by go_num, hap2.out _ _ _ _ hown1 hgrow⟩
            · have e := Lib.hid (show pst (t + 1) = pst t from by rw [pst, pstep, if_pos hA])
              clear hA
              go_wp2_with fail
              go_roundg (T - (t + 1))
              case measure => omega
              case rel => exact ⟨t + 1, rfl, by omega, by go_num, by rw [e.out]; exact hownH.out, htcH.out⟩
    · obtain rfl : t = T := by omega
      have hli := h2H.out
      have hlin : ((pst t).length : Int) = (n : Int) := by omega
      rcases ho.2 with ⟨hv, hl0⟩ | ⟨gv, cv, cur, hv, _, _, _, _, _, _⟩
      · omega
      · subst hv
        have hcs := Lib.hid (own_cells ho)
        replace htc := Lib.hid htc
        clear ho
        have hlf : ¬ ((pst t).length : Int) < (n : Int) := by omega
        clear hlin
        replace hli := Lib.hid hli
        go_wp2_with fail
        go_ret
        exact ⟨_, rfl, ⟨gv, cv, rfl, hcs.out⟩, htc.out⟩

end Go.Proofs.YtpecclcihefbaaaDoor.Ref
