/- The walk of the reference's Table. -/
import Derived.Test.YtpecclcihefbaaaDoorRefF
import Derived.Test.YtpecclcihefbaaaDoorShaB
import Derived.Deep.Onto
set_option linter.unusedVariables false
set_option linter.unusedSimpArgs false
namespace Go.Proofs.YtpecclcihefbaaaDoor.Ref
open Go.RowKit Go.Proofs.YtpecclcihefbaaaDoor.B Go.Proofs.YtpecclcihefbaaaDoor.Sha

def uvs (l : List (BitVec 32)) : List Value := l.map uv
theorem uvs_append (a b : List (BitVec 32)) : uvs (a ++ b) = uvs a ++ uvs b := List.map_append ..
theorem info32 : (Tryd.prog.info? 42).map (fun i => (i.zero, i.size, i.bytes)) = some (some (.int .u32 0), 1, 4) := by kernel_rfl
theorem rootN_lt (p q : Nat) : rootN p q < 4294967296 := Nat.mod_lt _ (by omega)
theorem tab_next (T q j : Nat) (hj : j < (pst T).length) : (tab 0 T q).take (j + 1) = (tab 0 T q).take j ++ [BitVec.ofNat 32 (rootN ((pst T).getD j 0) q)] := by
  rw [List.take_add_one]
  congr 1
  unfold tab
  rw [List.getElem?_map, List.getElem?_eq_getElem hj, List.getD_eq_getElem?_getD, List.getElem?_eq_getElem hj]
  rfl
theorem tab_app {w w0 w1 : World} {g cap T q j : Nat} {v : Value} {o : Obj} (ho : w.ownsRow w0.heap.size 42 1 v j (uvs ((tab 0 T q).take j))) (hj : j < (pst T).length) (ht : Tch (fun _ => False) w0 w)
    (h1 : w1.ownsRow w0.heap.size 42 1 (.slice (some ⟨g, 0, none⟩) (j + 1) cap) (j + 1) (uvs ((tab 0 T q).take j) ++ [.int .u32 ((rootN ((pst T).getD j 0) q : Nat) : Int)])) (h2 : (w.alloc o).grownBy w1 v.ownBlock) :
    w1.ownsRow w0.heap.size 42 1 (.slice (some ⟨g, 0, none⟩) (j + 1) cap) (j + 1) (uvs ((tab 0 T q).take (j + 1))) ∧ Tch (fun _ => False) w0 w1 := by
  rw [tab_next T q j hj, uvs_append]
  have e : uvs [BitVec.ofNat 32 (rootN ((pst T).getD j 0) q)] = [.int .u32 ((rootN ((pst T).getD j 0) q : Nat) : Int)] := by
    simp only [uvs, uv, List.map_cons, List.map_nil, nv_of _ (rootN_lt _ _)]
  rw [e]
  exact ⟨h1, own_tch (ht.alloc _) (ho.alloc _) (Nat.le_refl _) h2⟩

set_option maxRecDepth 100000 in
set_option maxHeartbeats 4000000 in
theorem Table_any (n T q : Nat) (hn : 1 ≤ n) (hn1 : n ≤ 100) (hT : T ≤ 400) (h1 : ∀ t, t < T → (pst t).length < n) (h2 : (pst T).length = n) (hq1 : 1 ≤ q) (hq : q ≤ 3) (w : World) :
    Calls Tryd.prog 35 #[.int .i64 (n : Int), .int .i64 (q : Int)] w fun e w' => ∃ v, e = .returned v ∧ w'.ownsRow w.heap.size 42 1 v n (uvs (tab 0 T q)) ∧ Tch (fun _ => False) w w' := by
  obtain ⟨i3, hi3, hz3, hs3, hb3⟩ := info_parts info32
  have hC := Lib.hid (primes_any n T hn hn1 hT h1 h2 w)
  have h2H := Lib.hid h2
  have hsm := Lib.hid (pst_small T)
  clear h1 h2
  go_enter Tryd.func35, Tryd.ntmps35
  go_wp2_with (go_at_call 52; refine (hC.out).mono ?_; rintro e w1 ⟨vp, rfl, hp, htp⟩; obtain ⟨gp, cp, rfl, hcp⟩ := hp; replace hcp := Lib.hid hcp; replace htp := Lib.hid htp)
  have hst := Lib.hid (show w1.ownsRow w1.heap.size 42 1 (.slice none 0 0) 0 (uvs ((tab 0 T q).take 0)) from ⟨rfl, .inl ⟨rfl, rfl⟩⟩)
  have hlen : ((pst T).length : Int) = (n : Int) := by have := h2H.out; omega
  go_loopg [5, 7] n (fun g v i W => ∃ j : Nat, g = n - j ∧ j ≤ n ∧ i = .int .i64 j ∧ W.ownsRow w1.heap.size 42 1 v j (uvs ((tab 0 T q).take j)) ∧ Tch (fun _ => False) w1 W)
  case atStart => exact ⟨0, rfl, by omega, rfl, hst.out, Tch.refl _ _⟩
  case round =>
    clear hst hC
    obtain ⟨j, hg, hj, rfl, ho, ht⟩ := hrel
    subst hg
    by_cases hjl : j < n
    · have hc := ht.cell (hcp.out j (by have := h2H.out; omega)) (fun e => e)
      have hji : (j : Int) < (n : Int) := by omega
      have hd := hsm.out ((pst T).getD j 0) (by rw [List.getD_eq_getElem?_getD, List.getElem?_eq_getElem (by have := h2H.out; omega)]; exact List.getElem_mem _)
      have hR := Lib.hid (root_any ((pst T).getD j 0) q hq1 hq (by omega) wr)
      have hoH := Lib.hid ho
      have htH := Lib.hid ht
      have hap := Lib.hid (fun g cap w1 w2 o (h0 : Tch (fun _ => False) wr w2) ho h1 h2 => tab_app (w := w2) (w1 := w1) (g := g) (cap := cap) (o := o) (v := u5) (q := q) ho (show j < (pst T).length from by have := h2H.out; omega) (htH.out.trans h0) h1 h2)
      clear ho ht
      generalize (pst T).getD j 0 = p at *
      generalize rootN p q = rr at *
      go_wp2_with (first
        | (go_at_call 53; refine (hR.out).mono ?_; rintro e w2 ⟨rfl, hw2⟩; have hw2H := Lib.hid hw2; have hown2 := Lib.hid (own_keep hoH.out hw2); clear hw2)
        | (at_builtin; refine wpList_append_lies _ (by rfl) _ _ _ (by rfl) w1.heap.size 42 i3 _ 1 4 Tryd.underlying50 hi3 hz3 hs3 hb3 rfl (by omega) u5 j _ (by rfl) (hown2.out.alloc _) ⟨w2.heap.size, 0, none⟩ 1 1 [.int .u32 (rr : Int)] (by rfl) (by rfl) (World.news_of_block (heap_alloc_at w2 _)) (by simp [Value.oneCell']) (by omega) (by unfold maxLen; omega) (by omega) (by simp; have := htH.out.size; have := hw2H.out.size; omega) (w2.heap.size + 1) (by simp) ?_; intro g cap w3 hown1 hgrow hat hlt))
      go_roundg (n - (j + 1))
      case measure => omega
      case rel =>
        have := hap.out _ _ _ _ _ hw2H.out hown2.out hown1 hgrow
        exact ⟨j + 1, rfl, by omega, by go_num, this.1, this.2⟩
    · obtain rfl : j = n := by omega
      rw [List.take_of_length_le (by unfold tab; rw [List.length_map, h2H.out]; exact Nat.le_refl _)] at ho
      have hoH := Lib.hid ho
      have htH := Lib.hid ht
      clear ho ht
      go_wp2_with fail
      go_ret
      exact ⟨_, rfl, hoH.out.mono htp.out.size, htp.out.trans htH.out⟩

theorem tabH' : tab 0 18 2 = H0 := tabH
theorem tabK' : tab 0 310 3 = K := tabK
theorem TableH (w : World) : Calls Tryd.prog 35 #[.int .i64 8, .int .i64 2] w fun e w' => ∃ v, e = .returned v ∧ w'.ownsRow w.heap.size 42 1 v 8 (uvs H0) ∧ Tch (fun _ => False) w w' := by
  have := Table_any 8 18 2 (by omega) (by omega) (by omega) (fun t ht => Nat.lt_of_le_of_lt (pst_mono t 17 (by omega)) pst8.1) pst8.2 (by omega) (by omega) w
  rwa [tabH'] at this
theorem TableK (w : World) : Calls Tryd.prog 35 #[.int .i64 64, .int .i64 3] w fun e w' => ∃ v, e = .returned v ∧ w'.ownsRow w.heap.size 42 1 v 64 (uvs K) ∧ Tch (fun _ => False) w w' := by
  have := Table_any 64 310 3 (by omega) (by omega) (by omega) (fun t ht => Nat.lt_of_le_of_lt (pst_mono t 309 (by omega)) pst64.1) pst64.2 (by omega) (by omega) w
  rwa [tabK'] at this

end Go.Proofs.YtpecclcihefbaaaDoor.Ref
