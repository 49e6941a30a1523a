/- The walk of digest.Hex, Name; awake. -/
import Derived.Test.YtpecclcihefbaaaDoorShaS
import Derived.Deep.RegionLaw
set_option linter.unusedVariables false
set_option linter.unusedSimpArgs false
namespace Go.Proofs.YtpecclcihefbaaaDoor.Sha
open Go.RowKit Go.Proofs.YtpecclcihefbaaaDoor.B

def dig (n : Nat) : UInt8 := ([48, 49, 50, 51, 52, 53, 54, 55, 56, 57, 97, 98, 99, 100, 101, 102] : List UInt8).getD n 0
def hexL (l : List UInt8) : List UInt8 := l.flatMap fun c => [dig (c.toNat / 16), dig (c.toNat % 16)]

theorem byte_cell {w : World} {g : Nat} {cells : Array Value} {t : TypeId} {fz : Nat × Nat} {s : ByteArray} (hg : w.heap[g]? = some (.cells cells t fz)) (ht : cells.toList.take s.size = bc s.data.toList) (j : Nat) (hj : j < s.size) :
    w.cell? ⟨g, j, none⟩ = some (.int .u8 ((s.data.toList.getD j 0).toNat : Int)) := by
  have hl : j < s.data.toList.length := by rw [len_list]; exact hj
  rw [cell_of hg, ← Array.getElem?_toList, ← show (cells.toList.take s.size)[j]? = cells.toList[j]? from by rw [List.getElem?_take, if_pos hj], ht, bc_get _ _ hl, List.getD_eq_getElem?_getD, List.getElem?_eq_getElem hl]
  rfl
theorem nib2 {c : UInt8} {n : Int} (h : (c.toNat : Int) = n) : bits .and .u8 n 15 = n % 16 := by
  subst h
  have : ∀ k, k < 256 → bits .and .u8 ((k : Nat) : Int) 15 = ((k : Nat) : Int) % 16 := by decide +kernel
  exact this _ c.toNat_lt
theorem digat (k : Nat) (h : k < ({ data := #[48, 49, 50, 51, 52, 53, 54, 55, 56, 57, 97, 98, 99, 100, 101, 102] } : ByteArray).size) : ({ data := #[48, 49, 50, 51, 52, 53, 54, 55, 56, 57, 97, 98, 99, 100, 101, 102] } : ByteArray)[k]'h = dig k := by
  have : ∀ k, k < 16 → ∀ h, ({ data := #[48, 49, 50, 51, 52, 53, 54, 55, 56, 57, 97, 98, 99, 100, 101, 102] } : ByteArray)[k]'h = dig k := by decide
  exact this k h h
theorem hex_next {l : List UInt8} (j : Nat) (hj : j < l.length) : hexL (l.take (j + 1)) = hexL (l.take j) ++ [dig ((l.getD j 0).toNat / 16), dig ((l.getD j 0).toNat % 16)] := by
  unfold hexL
  rw [List.take_add_one, List.flatMap_append, List.getD_eq_getElem?_getD, List.getElem?_eq_getElem hj]
  simp
theorem hexL_len (l : List UInt8) : (hexL l).length = l.length * 2 := by
  induction l with
  | nil => rfl
  | cons a l ih => unfold hexL at *; simp only [List.flatMap_cons, List.length_append, ih, List.length_cons, List.length_nil]; omega
theorem hexL_len' (b : ByteArray) : (hexL b.data.toList).length = b.size * 2 := by rw [hexL_len, len_list]
theorem undrew {w w' : World} {row : Option Nat} (h : w.drew.grownBy w' row) : w.grownBy w' row := ⟨h.os, h.tape, h.output, h.size, h.block⟩
set_option maxRecDepth 100000 in
set_option maxHeartbeats 4000000 in
theorem Hex_any (b : ByteArray) (hsz : b.size ≤ 70368744177664) (w : World) :
    Calls Tryd.prog 26 #[.string b] w fun e w' => e = .returned (.string ⟨(hexL b.data.toList).toArray⟩) ∧ Tch (fun _ => False) w w' := by
  have hsz := Lib.hid hsz
  obtain ⟨cap, w1, cells, fz, hcv, hbw, hsz1, hg, hcs, hcap, htk, hfz, _⟩ := bytes_of w b
  have hown0 := Lib.hid (own_nil w1 w1.heap.size)
  have hbw := Lib.hid hbw
  have hcs := Lib.hid hcs
  have htk := Lib.hid htk
  have hg := Lib.hid hg
  clear hfz hcap
  obtain ⟨i8, hi8, hz8, hs8, hb8⟩ := info8
  go_enter Tryd.func26, Tryd.ntmps26
  go_wp2_with fail
  go_loopg [3, 9] b.size (fun g v i W => ∃ j : Nat, g = b.size - j ∧ j ≤ b.size ∧ i = .int .i64 j ∧ W.ownsRow w1.heap.size 5 1 v (j * 2) (bc (hexL (b.data.toList.take j))) ∧ Tch (fun _ => False) w1 W)
  case atStart => exact ⟨0, rfl, by omega, rfl, hown0.out, Tch.refl _ _⟩
  case round =>
    clear hown0
    obtain ⟨j, hgj, hj, rfl, ho, ht⟩ := hrel
    subst hgj
    by_cases hjl : j < b.size
    · have hcell := byte_cell (ht.heap hg.out (fun e => e)) htk.out j hjl
      have hji : (j : Int) < (b.size : Int) := by omega
      have hoH := Lib.hid ho
      have htH := Lib.hid ht
      clear ho ht
      generalize hc : b.data.toList.getD j 0 = c at hcell
      replace hc := Lib.hid hc
      obtain ⟨n, hn⟩ : ∃ n : Int, (c.toNat : Int) = n := ⟨_, rfl⟩
      rw [hn] at hcell
      have hn0 : (0 : Int) ≤ n / 16 := by have := c.toNat_lt; omega
      have hn1 : n / 16 < 16 := by have := c.toNat_lt; omega
      have hn2 : bits .and .u8 n 15 = n % 16 := nib2 hn
      have hn3 : (0 : Int) ≤ n % 16 := by omega
      have hn4 : n % 16 < 16 := by omega
      replace hn := Lib.hid hn
      have hnx : ∀ (w2 : World) (v : Value) (news : List Value), w2.ownsRow w1.heap.size 5 1 v (j * 2 + 2) (bc (hexL (b.data.toList.take j)) ++ news) → news = bc [dig (c.toNat / 16), dig (c.toNat % 16)] →
          w2.ownsRow w1.heap.size 5 1 v ((j + 1) * 2) (bc (hexL (b.data.toList.take (j + 1)))) := by
        intro w2 v news h1 h2
        subst h2
        rw [hex_next j (by rw [len_list]; exact hjl), hc.out, bc_append, show (j + 1) * 2 = j * 2 + 2 from by omega]; exact h1
      have hfin := Lib.hid hnx
      clear hnx
      go_wp2_with fail
      go_region_law
        ((refine step_append_lies _ (by rfl) _ _ _ (by rfl) w1.heap.size 5 i8 _ 1 1 Tryd.underlying48 hi8 hz8 hs8 hb8 rfl (by omega) u3 (j * 2) _ (by rfl) (hoH.out.alloc _).drew ⟨wr.heap.size, 0, none⟩ 2 2 _ (by rfl) (by rfl) (World.news_of_block (heap_alloc_at wr _)) (by simp [Value.oneCell']) (by omega) (by unfold maxLen; have := hsz.out; omega) (by have := hsz.out; omega) (by have := htH.out.size; simp; omega) (wr.heap.size + 1) (by simp) ?_; intro g cap2 w2 hown1 hgrow hat hlt))
      all_goals (try go_wp2_with fail)
      all_goals go_roundg (b.size - (j + 1))
      case measure => omega
      case measure => omega
      all_goals exact ⟨j + 1, rfl, by omega, by go_num, hfin.out _ _ _ hown1 (by simp only [bc, List.map_cons, List.map_nil, digat]; rw [show (n / 16).toNat = c.toNat / 16 from by have := hn.out; omega, show (n % 16).toNat = c.toNat % 16 from by have := hn.out; omega]), own_tch (htH.out.alloc _) (hoH.out.alloc _) (Nat.le_refl _) (undrew hgrow)⟩
    · have hji : ¬ (j : Int) < (b.size : Int) := by omega
      obtain rfl : j = b.size := by omega
      rw [List.take_of_length_le (by rw [len_list]; exact Nat.le_refl _), ← hexL_len' b] at ho
      have hcv := own_conv _ _ _ _ ho
      have htH := Lib.hid ht
      clear ho ht
      generalize hout : (⟨(hexL b.data.toList).toArray⟩ : ByteArray) = out at hcv
      replace hout := Lib.hid hout
      go_wp2_with fail
      go_ret
      exact ⟨by rw [hout.out]; rfl, (Tch.of_new hbw.out).trans (htH.out.mono fun _ h => h)⟩

def nameL (s : List UInt8) : List UInt8 := hexL (shaL K H0 s)
theorem shaL_len (s : List UInt8) : (shaL K H0 s).length = 32 := by
  unfold shaL
  rw [flat_len (runs_length K _ H0 _ (Nat.le_refl _) rfl)]
theorem sha_size (s : ByteArray) : (sha K H0 s).size = 32 := by rw [← len_list]; unfold sha; rw [List.toList_toArray, shaL_len]

theorem Name_any (s : ByteArray) (hsz : s.size ≤ 140737488351232) (w : World) :
    Calls Tryd.prog 18 #[.string s] w fun e w' => e = .returned (.string ⟨(nameL s.data.toList).toArray⟩) ∧ Tch (fun _ => False) w w' := by
  have hC := Lib.hid (Sum_any s hsz w)
  have hH := Lib.hid (fun w' => Hex_any (sha K H0 s) (by rw [sha_size]; omega) w')
  have hn : (⟨(hexL (sha K H0 s).data.toList).toArray⟩ : ByteArray) = ⟨(nameL s.data.toList).toArray⟩ := by unfold sha nameL; rw [List.toList_toArray]
  have hn := Lib.hid hn
  generalize sha K H0 s = d at hC hH hn
  go_enter Tryd.func18, Tryd.ntmps18
  go_wp2_with (first
    | (go_at_call 17; refine (hC.out).mono ?_; rintro e w1 ⟨rfl, h1⟩; have h1 := Lib.hid h1)
    | (go_at_call 26; refine (hH.out _).mono ?_; rintro e w2 ⟨rfl, h2⟩; have h2 := Lib.hid h2))
  go_ret
  exact ⟨by rw [← hn.out]; rfl, h1.out.trans h2.out⟩

theorem name_empty : nameL [] = [101, 51, 98, 48, 99, 52, 52, 50, 57, 56, 102, 99, 49, 99, 49, 52, 57, 97, 102, 98, 102, 52, 99, 56, 57, 57, 54, 102, 98, 57, 50, 52, 50, 55, 97, 101, 52, 49, 101, 52, 54, 52, 57, 98, 57, 51, 52, 99, 97, 52, 57, 53, 57, 57, 49, 98, 55, 56, 53, 50, 98, 56, 53, 53] := by
  unfold nameL shaL
  rw [show ([] : List UInt8) ++ padding ([] : List UInt8).length = padding 0 from rfl, runs_long K H0 _ (by decide), runs_short K _ _ (by decide)]
  decide +kernel

theorem awake03 (w : World) : Calls Tryd.prog 16 #[] w fun e w' => e = .returned (.bool true) ∧ Tch (fun _ => False) w w' := by
  have hC := Lib.hid (Name_any ⟨#[]⟩ (by decide) w)
  rw [show (⟨#[]⟩ : ByteArray).data.toList = [] from rfl, name_empty] at hC
  go_enter Tryd.func16, Tryd.ntmps16
  go_wp2_with (go_at_call 18; refine (hC.out).mono ?_; rintro e w1 ⟨rfl, h1⟩; have h1 := Lib.hid h1)
  go_ret
  exact ⟨rfl, h1.out⟩

end Go.Proofs.YtpecclcihefbaaaDoor.Sha
