/- The walk of the document's Hex. -/
import Derived.Test.YtpecclcihefbaaaDoorDigP
import Derived.Deep.RegionLaw
set_option linter.unusedVariables false
set_option linter.unusedSimpArgs false
namespace Go.Proofs.YtpecclcihefbaaaDoor.Dig
open Go Go.RowKit Go.Proofs.YtpecclcihefbaaaDoor.B Go.Proofs.YtpecclcihefbaaaDoor.Sha

set_option maxRecDepth 100000 in
set_option maxHeartbeats 4000000 in
theorem rHex_any (b : ByteArray) (hsz : b.size ≤ 70368744177664) (w : World) :
    Calls Tryd.prog 20 #[.string b] w fun e w' => e = .returned (.string ⟨(hexL b.data.toList).toArray⟩) ∧ Tch (fun _ => False) w w' := by
  have hszi : (b.size : Int) ≤ 70368744177664 := by omega
  have hsz := Lib.hid hsz
  have hown0 := Lib.hid (own_nil w w.heap.size)
  obtain ⟨i8, hi8, hz8, hs8, hb8⟩ := info8
  go_enter Tryd.func20, Tryd.ntmps20
  go_wp2_with fail
  go_loopg [4, 5] b.size (fun g v i W => ∃ j : Nat, g = b.size - j ∧ j ≤ b.size ∧ i = .int .i64 j ∧ W.ownsRow w.heap.size 5 1 v (j * 2) (bc (hexL (b.data.toList.take j))) ∧ Tch (fun _ => False) w W)
  case atStart => exact ⟨0, rfl, by omega, rfl, hown0.out, Tch.refl _ _⟩
  case round =>
    clear hown0
    obtain ⟨j, hgj, hj, rfl, ho, ht⟩ := hrel
    subst hgj
    by_cases hjl : j < b.size
    · have hix := fun (W : World) => str_idx (P := Tryd.prog) Tryd.underlying9 b j hjl W
      have hji : (j : Int) < (b.size : Int) := by omega
      have hoH := Lib.hid ho
      have htH := Lib.hid ht
      clear ho ht
      generalize hc : b.data.toList.getD j 0 = c at hix
      replace hc := Lib.hid hc
      obtain ⟨n, hn⟩ : ∃ n : Int, (c.toNat : Int) = n := ⟨_, rfl⟩
      simp only [hn] at hix
      have hnn : (0 : Int) ≤ n := by omega
      have hnm : n ≤ 255 := by have := c.toNat_lt; omega
      obtain ⟨q, hq⟩ : ∃ q : Int, IntKind.u8.wrap (n.tdiv 16) = q := ⟨_, rfl⟩
      obtain ⟨r, hr⟩ : ∃ r : Int, n.tmod 16 = r := ⟨_, rfl⟩
      have hqn : q = n / 16 := by rw [← hq, IntKind.wrap_u8, Int.tdiv_eq_ediv_of_nonneg hnn]; omega
      have hrn : r = n % 16 := by rw [← hr, Int.tmod_eq_emod_of_nonneg hnn]
      have hn0 : (0 : Int) ≤ q := by omega
      have hn1 : q < 16 := by omega
      have hn3 : (0 : Int) ≤ r := by omega
      have hn4 : r < 16 := by omega
      replace hqn := Lib.hid hqn
      replace hrn := Lib.hid hrn
      replace hn := Lib.hid hn
      have hnx : ∀ (w2 : World) (v : Value) (news : List Value), w2.ownsRow w.heap.size 5 1 v (j * 2 + 2) (bc (hexL (b.data.toList.take j)) ++ news) → news = bc [dig (c.toNat / 16), dig (c.toNat % 16)] →
          w2.ownsRow w.heap.size 5 1 v ((j + 1) * 2) (bc (hexL (b.data.toList.take (j + 1)))) := by
        intro w2 v news h1 h2
        subst h2
        rw [hex_next j (by rw [len_list]; exact hjl), hc.out, bc_append, show (j + 1) * 2 = j * 2 + 2 from by omega]; exact h1
      have hfin := Lib.hid hnx
      clear hnx
      go_wp2_with fail
      go_region_law
        ((refine step_append_lies _ (by rfl) _ _ _ (by rfl) w.heap.size 5 i8 _ 1 1 Tryd.underlying48 hi8 hz8 hs8 hb8 rfl (by omega) u4 (j * 2) _ (by rfl) (hoH.out.alloc _).drew ⟨wr.heap.size, 0, none⟩ 2 2 _ (by rfl) (by rfl) (World.news_of_block (heap_alloc_at wr _)) (by simp [Value.oneCell']) (by omega) (by unfold maxLen; have := hsz.out; omega) (by have := hsz.out; omega) (by have := htH.out.size; simp; omega) (wr.heap.size + 1) (by simp) ?_; intro g cap2 w2 hown1 hgrow hat hlt))
      all_goals (try go_wp2_with fail)
      all_goals go_roundg (b.size - (j + 1))
      all_goals first | omega | exact ⟨j + 1, rfl, by omega, by go_num, hfin.out _ _ _ hown1 (by simp only [bc, List.map_cons, List.map_nil, digat]; rw [show q.toNat = c.toNat / 16 from by have := hn.out; have := hqn.out; omega, show r.toNat = c.toNat % 16 from by have := hn.out; have := hrn.out; omega]), own_tch (htH.out.alloc _) (hoH.out.alloc _) (Nat.le_refl _) (undrew hgrow)⟩
    · have hji : ¬ (j : Int) < (b.size : Int) := by omega
      obtain rfl : j = b.size := by omega
      rw [List.take_of_length_le (by rw [len_list]; exact Nat.le_refl _), ← hexL_len' b] at ho
      have hcv := own_conv _ _ _ _ ho
      have htH := Lib.hid ht
      clear ho ht
      generalize hout : (⟨(hexL b.data.toList).toArray⟩ : ByteArray) = out at hcv
      replace hout := Lib.hid hout
      go_wp2_with fail
      go_ret
      exact ⟨by rw [hout.out]; rfl, htH.out.mono fun _ h => h⟩
end Go.Proofs.YtpecclcihefbaaaDoor.Dig
