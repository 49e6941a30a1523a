/- What LawPatchCommutes lean on, part k of 29: the texts TmG, TmXb, RefF, TmF, ShaN, RefG, TmT. -/
import Derived.Test.YtbiioaggilaebaaGreatDoorTWg
import Derived.Test.YtbiioaggilaebaaGreatDoorTWi
import Derived.Test.YtbiioaggilaebaaGreatDoorTWj
import Derived.Deep.AppendLies
import Derived.Deep.RegionLaw
import Derived.Deep.Onto
import Derived.Lib.ItoaNum
set_option linter.unusedVariables false
set_option linter.unusedSimpArgs false
namespace Go.Proofs.YtbiioaggilaebaaGreatDoor.Tm
open Go Go.RowKit Go.Proofs.YtbiioaggilaebaaGreatDoor.B Go.Proofs.YtbiioaggilaebaaGreatDoor.Bld Go.Proofs.YtbiioaggilaebaaGreatDoor.Sha
def RdAt (w : World) (g : Nat) (s : ByteArray) : Prop := w.heap[g]? = some (.cells #[.string s] 142 (0, 0))
theorem rdAt_set {w : World} {g : Nat} {s : ByteArray} (h : RdAt w g s) (r : ByteArray) : RdAt (w.setCell ⟨g, 0, none⟩ (.string r)) g r := heap_set w g 0 (.string r) _ _ _ h
theorem toList_size (s : ByteArray) : s.data.toList.length = s.size := by rw [Array.length_toList]; rfl
theorem getD_some {l : List UInt8} {k : Nat} (h : k < l.length) : l[k]? = some (l.getD k 0) := by rw [List.getD_eq_getElem?_getD, List.getElem?_eq_getElem h]; rfl
theorem extract_toList (s : ByteArray) (a : Nat) : (s.extract a s.size).data.toList = s.data.toList.drop a := by
  rw [Lib.extract_data, List.take_of_length_le]
  rw [List.length_drop, toList_size]
  exact Nat.le_refl _
def LenPost (g : Nat) (s : ByteArray) (w : World) (ev : Ending) (w' : World) : Prop := ∃ n ok r, ev = .returned (.tuple #[.int .i64 n, .bool ok]) ∧ RdAt w' g r ∧ LenSpec s.data.toList n ok r.data.toList ∧ Tch (fun k => k = g) w w'
theorem lenPost_same {g : Nat} {s : ByteArray} {w : World} {n : Int} (h : RdAt w g s) (hl : LenSpec s.data.toList n false s.data.toList) : LenPost g s w (.returned (.tuple #[.int .i64 n, .bool false])) w :=
  ⟨n, false, s, rfl, h, hl, Tch.refl _ _⟩
theorem lenPost_good {g : Nat} {s : ByteArray} {w : World} {k m : Nat} (h : RdAt w g s) (hk : k + 1 ≤ s.size) (hl : LenSpec s.data.toList m (decide (m ≤ (s.data.toList.drop (k + 1)).length)) (s.data.toList.drop (k + 1))) :
    LenPost g s w (.returned (.tuple #[.int .i64 m, .bool (decide (m ≤ s.size - (k + 1)))])) ((w.setCell ⟨g, 0, none⟩ (.string (s.extract (k + 1) s.size))).drew) := by
  refine ⟨_, _, s.extract (k + 1) s.size, rfl, rdAt_set h _, ?_, ((Tch.refl (fun k => k = g) w).setCell ⟨g, 0, none⟩ (fun _ => rfl) _).drew⟩
  rw [extract_toList]
  rw [List.length_drop, toList_size] at hl
  exact hl
set_option maxRecDepth 100000 in
set_option maxHeartbeats 4000000 in
theorem length_c (g : Nat) (s : ByteArray) (w : World) (hg : RdAt w g s) (hs : s.size ≤ 65536) :
    Calls Tryz.prog 133 #[.pointer (some ⟨g, 0, none⟩)] w (LenPost g s w) := by
  have hc0 : w.cell? ⟨g, 0, none⟩ = some (.string s) := by rw [cell_of hg]; rfl
  have hfz : w.frozen? ⟨g, 0, none⟩ = false := fr_of hg 0
  have hgH := Lib.hid hg
  obtain ⟨l, hl⟩ : ∃ l, l = s.data.toList := ⟨_, rfl⟩
  have hsl : l.length = s.size := by rw [hl]; exact toList_size s
  replace hl := Lib.hid hl
  obtain ⟨n, hn⟩ : ∃ n, n = s.size := ⟨_, rfl⟩
  rw [← hn] at hsl hs
  have hsz : (s.size : Int) = (n : Int) := by omega
  replace hsl := Lib.hid hsl
  replace hn := Lib.hid hn
  clear hg
  go_enter Tryz.func133, Tryz.ntmps133
  go_wp2_with fail
  go_loopg [4, 5] n (fun g' v i W => ∃ k m : Nat, g' = n - k ∧ v = .int .i64 m ∧ i = .int .i64 k ∧ LenInv l k m ∧ W = w)
  case atStart => exact ⟨0, 0, rfl, rfl, rfl, lenInv_zero l, rfl⟩
  case round =>
    obtain ⟨k, m, hg', rfl, rfl, hI, rfl⟩ := hrel
    subst hg'
    have hkl := hI.1
    have hm := hI.2.2.1
    rw [hsl.out] at hkl
    have hIH := Lib.hid hI
    clear hI
    by_cases hkn : k < n
    · have hki : (k : Int) < (n : Int) := by omega
      have hix := fun (W : World) => str_idx (P := Tryz.prog) Tryz.underlying9 s k (by rw [← hn.out]; exact hkn) W
      rw [← hl.out] at hix
      have hat := Lib.hid (getD_some (l := l) (k := k) (by rw [hsl.out]; exact hkn))
      generalize l.getD k 0 = a at *
      obtain ⟨b, hb⟩ : ∃ b, b = a.toNat := ⟨_, rfl⟩
      have hb256 : b < 256 := by rw [hb]; exact a.toNat_lt
      rw [← hb] at hix
      replace hb := Lib.hid hb
      have hki64 : (k : Int) ≤ 65536 := by omega
      by_cases hd : 48 ≤ b ∧ b ≤ 57
      · obtain ⟨hd1, hd2⟩ := hd
        have hdH := Lib.hid (show isD a by unfold isD; rw [← hb.out]; exact ⟨hd1, hd2⟩)
        have hstep := Lib.hid (show 10 * m + (b - 48) ≤ 65536 → LenInv l (k + 1) (10 * m + (b - 48)) from fun h => by rw [hb.out] at h ⊢; exact lenInv_step hIH.out hat.out hdH.out h)
        have hbig := Lib.hid (show 65536 < 10 * m + (b - 48) → LenSpec l 0 false l from fun h => by rw [hb.out] at h; exact len_big hIH.out hat.out hdH.out h 0)
        have g1 : (48 : Int) ≤ (b : Int) := by omega
        have g2 : (b : Int) ≤ 57 := by omega
        have gw : ((b : Int) - 48) % 256 = (b : Int) - 48 := by omega
        have gs : (((10 * m + (b - 48) : Nat)) : Int) = (m : Int) * 10 + ((b : Int) - 48) := by omega
        replace gs := Lib.hid gs
        by_cases hz : k = 0 ∧ b = 48
        · obtain ⟨hk0, hb0⟩ := hz
          have gk : ((k : Int) == 0) = true := by rw [beq_iff_eq]; omega
          have gz : ((b : Int) == 48) = true := by rw [beq_iff_eq]; omega
          have hat0 := Lib.hid (show l[0]? = some 48 by have := hat.out; rw [hk0] at this; rw [this]; congr 1; exact UInt8.toNat_inj.1 (by rw [← hb.out, hb0]; rfl))
          replace hb0 := Lib.hid hb0
          replace hk0 := Lib.hid hk0
          by_cases h2 : n < 2
          · have hsp := Lib.hid (len_zero hat0.out (by rw [List.getElem?_eq_none (by rw [hsl.out]; omega)]; simp) 0)
            have q2 : (n : Int) < 2 := by omega
            go_wp2_with fail
            go_ret2
            exact lenPost_same hgH.out (by rw [← hl.out]; exact hsp.out)
          · have q2 : ¬ (n : Int) < 2 := by omega
            have h1s : 1 < s.size := by rw [← hn.out]; omega
            obtain ⟨c, hc⟩ : ∃ c, c = s[1]'h1s := ⟨_, rfl⟩
            have hl1 : l[1]? = some c := by rw [hl.out, hc, Array.getElem?_toList, Array.getElem?_eq_getElem h1s]; rfl
            by_cases h58 : c = 58
            · have q58 : (((s[1]'h1s).toNat : Int) != 58) = false := by rw [← hc, h58]; rfl
              have hmb : 10 * m + (b - 48) ≤ 65536 := by
                have := hIH.out.2.1
                rw [hk0.out] at this
                have e : val (l.take 0) = 0 := rfl
                have := hb0.out
                omega
              have q1 : ¬ (65536 : Int) < (m : Int) * 10 + ((b : Int) - 48) := by omega
              have hs1 := Lib.hid (hstep.out hmb)
              clear hmb hc hl1 h58
              go_wp2_with fail
              go_roundg (n - (k + 1))
              case measure => omega
              case rel => exact ⟨k + 1, _, rfl, by rw [gs.out], by go_num, hs1.out, rfl⟩
            · have q58 : (((s[1]'h1s).toNat : Int) != 58) = true := by
                rw [← hc, bne_iff_ne]
                intro h
                exact h58 (UInt8.toNat_inj.1 (by have : ((58 : UInt8).toNat : Int) = 58 := rfl; omega))
              have hsp := Lib.hid (len_zero hat0.out (by rw [hl1]; simpa using h58) 0)
              clear hc hl1 h58
              go_wp2_with fail
              go_ret2
              exact lenPost_same hgH.out (by rw [← hl.out]; exact hsp.out)
        · have gz2 : ((k : Int) == 0) = false ∨ ((b : Int) == 48) = false := by
            by_cases h : k = 0
            · right; rw [beq_eq_false_iff_ne]; intro h2; exact hz ⟨h, by omega⟩
            · left; rw [beq_eq_false_iff_ne]; omega
          clear hz
          rcases gz2 with gz | gz
          · by_cases hbg : 65536 < 10 * m + (b - 48)
            · have hsp := Lib.hid (hbig.out hbg)
              have q1 : (65536 : Int) < (m : Int) * 10 + ((b : Int) - 48) := by omega
              clear hbg
              go_wp2_with fail
              go_ret2
              exact lenPost_same hgH.out (by rw [← hl.out]; exact hsp.out)
            · have q1 : ¬ (65536 : Int) < (m : Int) * 10 + ((b : Int) - 48) := by omega
              have hs1 := Lib.hid (hstep.out (by omega))
              clear hbg
              go_wp2_with fail
              go_roundg (n - (k + 1))
              case measure => omega
              case rel => exact ⟨k + 1, _, rfl, by rw [gs.out], by go_num, hs1.out, rfl⟩
          · by_cases gk : ((k : Int) == 0) = true
            · by_cases hbg : 65536 < 10 * m + (b - 48)
              · have hsp := Lib.hid (hbig.out hbg)
                have q1 : (65536 : Int) < (m : Int) * 10 + ((b : Int) - 48) := by omega
                clear hbg
                go_wp2_with fail
                go_ret2
                exact lenPost_same hgH.out (by rw [← hl.out]; exact hsp.out)
              · have q1 : ¬ (65536 : Int) < (m : Int) * 10 + ((b : Int) - 48) := by omega
                have hs1 := Lib.hid (hstep.out (by omega))
                clear hbg
                go_wp2_with fail
                go_roundg (n - (k + 1))
                case measure => omega
                case rel => exact ⟨k + 1, _, rfl, by rw [gs.out], by go_num, hs1.out, rfl⟩
            · replace gk : ((k : Int) == 0) = false := by simpa using gk
              by_cases hbg : 65536 < 10 * m + (b - 48)
              · have hsp := Lib.hid (hbig.out hbg)
                have q1 : (65536 : Int) < (m : Int) * 10 + ((b : Int) - 48) := by omega
                clear hbg
                go_wp2_with fail
                go_ret2
                exact lenPost_same hgH.out (by rw [← hl.out]; exact hsp.out)
              · have q1 : ¬ (65536 : Int) < (m : Int) * 10 + ((b : Int) - 48) := by omega
                have hs1 := Lib.hid (hstep.out (by omega))
                clear hbg
                go_wp2_with fail
                go_roundg (n - (k + 1))
                case measure => omega
                case rel => exact ⟨k + 1, _, rfl, by rw [gs.out], by go_num, hs1.out, rfl⟩
      · have hdH := Lib.hid (show ¬ isD a by unfold isD; rw [← hb.out]; exact hd)
        have gz : ((b : Int) == 48) = false := by rw [beq_eq_false_iff_ne]; omega
        have gd : (48 : Int) ≤ (b : Int) → ¬ (b : Int) ≤ 57 := by omega
        by_cases hc58 : b = 58 ∧ 0 < k
        · obtain ⟨hb58, hk0⟩ := hc58
          have ha58 := Lib.hid (show l[k]? = some 58 by rw [hat.out]; congr 1; exact UInt8.toNat_inj.1 (by rw [← hb.out, hb58]; rfl))
          have hgood := Lib.hid (len_good hIH.out ha58.out)
          have q1 : ((b : Int) == 58) = true := by rw [beq_iff_eq]; omega
          have q2 : (48 : Int) ≤ (b : Int) := by omega
          have q3 : ¬ (b : Int) ≤ 57 := by omega
          have q4 : (0 : Int) < (k : Int) := by omega
          have q5 : (k : Int) + 1 ≤ (n : Int) := by omega
          clear gd hb58
          go_wp2_with fail
          go_region
          go_wp2_with fail
          go_ret2
          exact lenPost_good hgH.out (by omega) (by rw [← hl.out]; exact hgood.out)
        · have hsp := Lib.hid (len_none hIH.out hat.out hdH.out (by rintro ⟨e, h⟩; exact hc58 ⟨by rw [hb.out, e]; rfl, h⟩) 0)
          have q4 : ((b : Int) == 58) = true → ¬ (0 : Int) < (k : Int) := by intro h h2; rw [beq_iff_eq] at h; exact hc58 ⟨by omega, by omega⟩
          clear hc58
          by_cases q1 : (48 : Int) ≤ (b : Int)
          · have q3 := gd q1
            clear gd
            by_cases q5 : ((b : Int) == 58) = true
            · have q6 := q4 q5
              clear q4
              go_wp2_with fail
              all_goals (go_ret2; exact lenPost_same hgH.out (by rw [← hl.out]; exact hsp.out))
            · replace q5 : ((b : Int) == 58) = false := by simpa using q5
              clear q4
              go_wp2_with fail
              all_goals (go_ret2; exact lenPost_same hgH.out (by rw [← hl.out]; exact hsp.out))
          · have q5 : ((b : Int) == 58) = true ∨ ((b : Int) == 58) = false := by cases h : ((b : Int) == 58) <;> simp
            clear gd
            rcases q5 with q5 | q5
            · have q6 := q4 q5
              clear q4
              go_wp2_with fail
              all_goals (go_ret2; exact lenPost_same hgH.out (by rw [← hl.out]; exact hsp.out))
            · clear q4
              go_wp2_with fail
              all_goals (go_ret2; exact lenPost_same hgH.out (by rw [← hl.out]; exact hsp.out))
    · have hkn' : k = n := by omega
      subst hkn'
      have hki : ¬ (k : Int) < (k : Int) := by omega
      go_wp2_with fail
      go_ret2
      exact lenPost_same hgH.out (by rw [← hl.out]; exact len_over (by rw [hsl.out]; exact hIH.out) 0)
end Go.Proofs.YtbiioaggilaebaaGreatDoor.Tm
set_option linter.unusedVariables false
set_option linter.unusedSimpArgs false
namespace Go.Proofs.YtbiioaggilaebaaGreatDoor.Tm
open Go Go.RowKit Go.Proofs.YtbiioaggilaebaaGreatDoor.B Go.Proofs.YtbiioaggilaebaaGreatDoor.Bld
set_option maxRecDepth 100000 in
set_option maxHeartbeats 2000000 in
theorem write_big (f : F) (c0 c1 c2 : Value) (w : World) (hf : FV w.heap.size w f [c0, c1, c2]) (hr : f.right = true) (hd : f.depth ≤ 8) (hlen : 65536 < f.bytes.length) (hmax : f.bytes.length ≤ 140000000000000) (htab : Tab w) (hgB : 2 < w.heap.size) :
    Calls Tryz.prog 45 #[.agg #[c0, c1, c2]] w fun ev w' => ev = .returned (.tuple #[.string ⟨#[]⟩, .iface 54 (.int .i64 2)]) ∧ Below w.heap.size w w' := by
  obtain ⟨B, hB⟩ : ∃ B, B = w.heap.size := ⟨_, rfl⟩
  rw [← hB] at hf hgB ⊢
  obtain ⟨w1, hw1⟩ : ∃ w1, w1 = w.alloc (.cells #[c0, c1, c2] 74) := ⟨_, rfl⟩
  obtain ⟨w2, hw2⟩ : ∃ w2, w2 = w1.alloc (.cells #[.pointer none, .slice none 0 0, .nilIface, .bool false] 129) := ⟨_, rfl⟩
  have hs1 : w1.heap.size = B + 1 := by rw [hw1, hB]; simp
  have hs2 : w2.heap.size = B + 2 := by rw [hw2]; simp [hs1]
  have hb1 : Below B w w1 := by rw [hw1]; exact (Below.refl _ _).alloc (by omega) _
  have hb2 : Below B w w2 := by rw [hw2]; exact hb1.alloc (by omega) _
  have hg : w2.heap[B + 1]? = some (.cells #[.pointer none, .slice none 0 0, .nilIface, .bool false] 129 (0, 0)) := by
    rw [hw2, ← hs1]; exact heap_alloc_at _ _
  have hat : WAt B (B + 1) [] .nilIface (.bool false) w2 := ⟨by omega, _, _, .inl rfl, hg, by
    refine ⟨by simp [bc], .inl ⟨rfl, rfl⟩⟩⟩
  have hP := put_anyG B (B + 1) .nilIface (.bool false) _ f (Nat.lt_succ_self _) hr [] 0 c0 c1 c2 w2 (FV.below hb2 _ _ hf) hat (htab.keep hb2 hgB) (by omega) hgB (by omega) (by simpa using hmax)
  have hov : 65536 < (wp f []).length := wp_over f [] (by simpa using hlen)
  have hup : (wp f []).length ≤ 140000000000000 := by have := (wp_len f []).2; simp at this; omega
  replace hP := Lib.hid hP
  have hb2H := Lib.hid hb2
  have hs2H := Lib.hid hs2
  have h1 : w2.heap[B]? = some (.cells #[c0, c1, c2] 74 (0, 0)) := by
    rw [hw2, heap_alloc_lt _ _ _ (by omega), hw1, hB]; exact heap_alloc_at _ _
  have hc0 : w2.cell? ⟨B, 0, none⟩ = some c0 := by rw [cell_of h1]; rfl
  have hc1 : w2.cell? ⟨B, 1, none⟩ = some c1 := by rw [cell_of h1]; rfl
  have hc2 : w2.cell? ⟨B, 2, none⟩ = some c2 := by rw [cell_of h1]; rfl
  generalize hbs : wp f [] = bs at *
  obtain ⟨fb, ft, fl⟩ := f
  unfold FV at hf
  obtain ⟨A, c, hcs, _⟩ := hf
  simp only [List.cons.injEq, and_true] at hcs
  obtain ⟨rfl, rfl, rfl⟩ := hcs
  have hlB : (65536 : Int) < (bs.length : Int) := by omega
  clear hov hup hlen hmax
  clear hat hg h1 hb1 hb2 hbs hr hd htab
  go_enter Tryz.func45, Tryz.ntmps45
  go_wp2_with fail
  rw [← hB, ← hw1]
  try rw [hs1]
  rw [← hw2]
  replace hB := Lib.hid hB
  replace hw1 := Lib.hid hw1
  replace hw2 := Lib.hid hw2
  clear hs1 hs2
  go_wp2_with fail
  refine (hP.out).mono ?_
  rintro ev w3 ⟨rfl, hw3, hb3, ho3⟩
  have hg3 := hw3
  obtain ⟨_, p, v, _, hg3, _⟩ := hg3
  have k2 : w3.cell? ⟨B + 1, 2, none⟩ = some .nilIface := by rw [cell_of hg3]; rfl
  have k3 : w3.cell? ⟨B + 1, 3, none⟩ = some (.bool false) := by rw [cell_of hg3]; rfl
  have hb3H := Lib.hid (hb2H.out.trans hb3)
  have hsz3 : B ≤ w3.heap.size := by have := hb3.size; have := hs2H.out; omega
  have CL := Lib.hid (fun (W : World) (hW : Below w3.heap.size w3 W) => len_any B (B + 1) bs .nilIface (.bool false) W (wat_tch hw3 hW))
  have hw3H := Lib.hid hw3
  clear hw3 hb3 hg3 hP
  go_wp2_with fail
  refine (CL.out w3 (Below.refl _ _)).mono ?_
  rintro ev w4 ⟨rfl, rfl⟩
  go_wp2_with fail
  go_ret2
  exact ⟨rfl, hb3H.out⟩
end Go.Proofs.YtbiioaggilaebaaGreatDoor.Tm
set_option linter.unusedVariables false
set_option linter.unusedSimpArgs false
namespace Go.Proofs.YtbiioaggilaebaaGreatDoor.Ref
open Go.RowKit Go.Proofs.YtbiioaggilaebaaGreatDoor.B
def ic (l : List Nat) : List Value := l.map fun x => .int .i64 ((x : Nat) : Int)
theorem ic_get (l : List Nat) (i : Nat) (h : i < l.length) : (ic l)[i]? = some (.int .i64 ((l.getD i 0 : Nat) : Int)) := by
  simp [ic, List.getD_eq_getElem?_getD, List.getElem?_eq_getElem h]
theorem ic_append (a b : List Nat) : ic (a ++ b) = ic a ++ ic b := List.map_append ..
def RowI (w : World) (v : Value) (l : List Nat) : Prop := ∃ g cap, v = .slice (some ⟨g, 0, none⟩) l.length cap ∧ ∀ k, k < l.length → w.cell? ⟨g, k, none⟩ = some (.int .i64 ((l.getD k 0 : Nat) : Int))
theorem infoInt : (Tryz.prog.info? 3).map (fun i => (i.zero, i.size, i.bytes)) = some (some (.int .i64 0), 1, 8) := by kernel_rfl
theorem own_cells {w : World} {base : Nat} {g cap : Nat} {l : List Nat} (h : w.ownsRow base 3 1 (.slice (some ⟨g, 0, none⟩) l.length cap) l.length (ic l)) :
    ∀ k, k < l.length → w.cell? ⟨g, k, none⟩ = some (.int .i64 ((l.getD k 0 : Nat) : Int)) := by
  intro k hk
  rw [h.cellAt k (by omega), ic_get l k hk]
theorem any_next (l : List Nat) (k j : Nat) (h : j < l.length) : (l.take (j + 1)).any (fun d => k % d == 0) = ((l.take j).any (fun d => k % d == 0) || (k % l.getD j 0 == 0)) := by
  rw [List.take_add_one, List.any_append, List.getD_eq_getElem?_getD, List.getElem?_eq_getElem h]
  simp
theorem pst_app {w w0 w1 : World} {g cap t : Nat} {v : Value} (ho : w.ownsRow w0.heap.size 3 1 v (pst t).length (ic (pst t))) (ha : (pst t).any (fun d => (t + 2) % d == 0) = false) (ht : Tch (fun _ => False) w0 w)
    (o : Obj) (h1 : w1.ownsRow w0.heap.size 3 1 (.slice (some ⟨g, 0, none⟩) ((pst t).length + 1) cap) ((pst t).length + 1) (ic (pst t) ++ [.int .i64 ((t : Int) + 2)])) (h2 : (w.alloc o).grownBy w1 v.ownBlock) :
    w1.ownsRow w0.heap.size 3 1 (.slice (some ⟨g, 0, none⟩) ((pst t).length + 1) cap) (pst (t + 1)).length (ic (pst (t + 1))) ∧ Tch (fun _ => False) w0 w1 := by
  have e : pst (t + 1) = pst t ++ [t + 2] := by rw [pst, pstep, if_neg (by rw [ha]; decide)]
  rw [e, List.length_append, ic_append]
  exact ⟨h1, own_tch (ht.alloc _) (ho.alloc _) (Nat.le_refl _) h2⟩
set_option maxRecDepth 100000 in
set_option maxHeartbeats 4000000 in
theorem primes_any (n T : Nat) (hn : 1 ≤ n) (hn1 : n ≤ 100) (hT : T ≤ 400) (h1 : ∀ t, t < T → (pst t).length < n) (h2 : (pst T).length = n) (w : World) :
    Calls Tryz.prog 130 #[.int .i64 (n : Int)] w fun e w' => ∃ v, e = .returned v ∧ RowI w' v (pst T) ∧ Tch (fun _ => False) w w' := by
  obtain ⟨i3, hi3, hz3, hs3, hb3⟩ := info_parts infoInt
  have h1H := Lib.hid h1
  have h2H := Lib.hid h2
  have hst := Lib.hid (show w.ownsRow w.heap.size 3 1 (.slice none 0 0) (pst 0).length (ic (pst 0)) from ⟨rfl, .inl ⟨rfl, rfl⟩⟩)
  clear h1 h2
  go_enter Tryz.func130, Tryz.ntmps130
  go_wp2_with fail
  go_loopg [3, 4] T (fun g v kv W => ∃ t : Nat, g = T - t ∧ t ≤ T ∧ kv = .int .i64 ((t : Int) + 2) ∧ W.ownsRow w.heap.size 3 1 v (pst t).length (ic (pst t)) ∧ Tch (fun _ => False) w W)
  case atStart => exact ⟨0, rfl, by omega, rfl, hst.out, Tch.refl _ _⟩
  case round =>
    clear hst
    obtain ⟨t, hg, ht, rfl, ho, htc⟩ := hrel
    subst hg
    by_cases htl : t < T
    · have hlt := h1H.out t htl
      have hlti : ((pst t).length : Int) < (n : Int) := by omega
      have hti : (t : Int) < 400 := by omega
      have hsm := Lib.hid (pst_small t)
      have hoH := Lib.hid ho
      have htcH := Lib.hid htc
      rcases ho.2 with ⟨hv, hl0⟩ | ⟨gv, cv, cur, hv, _, _, _, _, _, _⟩
      · subst hv
        clear htc
        have hap := Lib.hid (fun g cap w1 o ha h1 h2 => pst_app (w1 := w1) (g := g) (cap := cap) hoH.out ha htcH.out o h1 h2)
        have hownH := hoH
        have hlti' : (0 : Int) < (n : Int) := by omega
        replace hl0 := Lib.hid hl0
        clear hlti
        clear ho
        go_wp2_with fail
        go_loopg [5, 6] (pst t).length (fun g iv jv W => ∃ j : Nat, g = (pst t).length - j ∧ j ≤ (pst t).length ∧ iv = .bool (!((pst t).take j).any (fun d => (t + 2) % d == 0)) ∧ jv = .int .i64 j ∧ W = wr)
        case atStart => exact ⟨0, rfl, by omega, rfl, rfl, rfl⟩
        case round =>
          obtain ⟨j, hgj, hj, rfl, rfl, rfl⟩ := hrel
          subst hgj
          by_cases hjl : j < (pst t).length
          · exact absurd hjl (by have := hl0.out; omega)
          · have hje : j = (pst t).length := by omega
            subst hje
            rw [List.take_of_length_le (Nat.le_refl _)]
            cases hA : (pst t).any (fun d => (t + 2) % d == 0)
            · have hap2 := Lib.hid (fun g cap w1 o h1 h2 => hap.out g cap w1 o hA h1 h2)
              clear hA
              go_wp2_with (at_builtin; refine wpList_append_lies _ (by rfl) _ _ _ (by rfl) w.heap.size 3 i3 _ 1 8 Tryz.underlying193 hi3 hz3 hs3 hb3 rfl (by omega) (.slice none 0 0) (pst t).length _ (by rfl) (hownH.out.alloc _) ⟨wr.heap.size, 0, none⟩ 1 1 [.int .i64 ((t : Int) + 2)] (by rfl) (by rfl) (World.news_of_block (heap_alloc_at wr _)) (by simp [Value.oneCell']) (by omega) (by unfold maxLen; omega) (by omega) (by simp; have := htcH.out.size; omega) (wr.heap.size + 1) (by simp) ?_; intro g cap w1 hown1 hgrow hat hlt)
              go_roundg (T - (t + 1))
              case measure => omega
              case rel => exact ⟨t + 1, rfl, by omega, by go_num, hap2.out _ _ _ _ hown1 hgrow⟩
            · have e := Lib.hid (show pst (t + 1) = pst t from by rw [pst, pstep, if_pos hA])
              clear hA
              go_wp2_with fail
              go_roundg (T - (t + 1))
              case measure => omega
              case rel => exact ⟨t + 1, rfl, by omega, by go_num, by rw [e.out]; exact hownH.out, htcH.out⟩
      · subst hv
        clear htc
        have hap := Lib.hid (fun g cap w1 o ha h1 h2 => pst_app (w1 := w1) (g := g) (cap := cap) hoH.out ha htcH.out o h1 h2)
        have hownH := hoH
        have hcs := Lib.hid (own_cells ho)
        clear ho
        go_wp2_with fail
        go_loopg [5, 6] (pst t).length (fun g iv jv W => ∃ j : Nat, g = (pst t).length - j ∧ j ≤ (pst t).length ∧ iv = .bool (!((pst t).take j).any (fun d => (t + 2) % d == 0)) ∧ jv = .int .i64 j ∧ W = wr)
        case atStart => exact ⟨0, rfl, by omega, rfl, rfl, rfl⟩
        case round =>
          obtain ⟨j, hgj, hj, rfl, rfl, rfl⟩ := hrel
          subst hgj
          by_cases hjl : j < (pst t).length
          · have hc := hcs.out j hjl
            have hd := hsm.out ((pst t).getD j 0) (by rw [List.getD_eq_getElem?_getD, List.getElem?_eq_getElem hjl]; exact List.getElem_mem hjl)
            have hnx := Lib.hid (any_next (pst t) (t + 2) j hjl)
            have hjli : (j : Int) < ((pst t).length : Int) := by omega
            generalize hdd : (pst t).getD j 0 = d at *
            have hd2 : (2 : Int) ≤ (d : Int) := by omega
            have hd3 : (d : Int) < 402 := by omega
            have hmod : ((t : Int) + 2) % (d : Int) = (((t + 2) % d : Nat) : Int) := (Int.natCast_emod (t + 2) d).symm
            clear hdd
            generalize hA : ((pst t).take j).any (fun d => (t + 2) % d == 0) = A at *
            by_cases hz : (t + 2) % d = 0
            · have hz0 : ((t : Int) + 2) % (d : Int) = 0 := by omega
              replace hz := Lib.hid hz
              clear hmod hA
              go_wp2_with fail
              go_roundg ((pst t).length - (j + 1))
              case measure => omega
              case rel => exact ⟨j + 1, rfl, by omega, by rw [hnx.out, hz.out]; simp, by go_num, rfl⟩
            · have hz0 : ¬ ((t : Int) + 2) % (d : Int) = 0 := by omega
              replace hz := Lib.hid hz
              clear hmod hA
              go_wp2_with fail
              go_roundg ((pst t).length - (j + 1))
              case measure => omega
              case rel => exact ⟨j + 1, rfl, by omega, by rw [hnx.out, beq_eq_false_iff_ne.2 hz.out]; simp, by go_num, rfl⟩
          · have hje : j = (pst t).length := by omega
            subst hje
            rw [List.take_of_length_le (Nat.le_refl _)]
            cases hA : (pst t).any (fun d => (t + 2) % d == 0)
            · have hap2 := Lib.hid (fun g cap w1 o h1 h2 => hap.out g cap w1 o hA h1 h2)
              clear hA
              go_wp2_with (at_builtin; refine wpList_append_lies _ (by rfl) _ _ _ (by rfl) w.heap.size 3 i3 _ 1 8 Tryz.underlying193 hi3 hz3 hs3 hb3 rfl (by omega) (.slice (some ⟨gv, 0, none⟩) (pst t).length cv) (pst t).length _ (by rfl) (hownH.out.alloc _) ⟨wr.heap.size, 0, none⟩ 1 1 [.int .i64 ((t : Int) + 2)] (by rfl) (by rfl) (World.news_of_block (heap_alloc_at wr _)) (by simp [Value.oneCell']) (by omega) (by unfold maxLen; omega) (by omega) (by simp; have := htcH.out.size; omega) (wr.heap.size + 1) (by simp) ?_; intro g cap w1 hown1 hgrow hat hlt)
              go_roundg (T - (t + 1))
              case measure => omega
              case rel => exact ⟨t + 1, rfl, by omega, by go_num, hap2.out _ _ _ _ hown1 hgrow⟩
            · have e := Lib.hid (show pst (t + 1) = pst t from by rw [pst, pstep, if_pos hA])
              clear hA
              go_wp2_with fail
              go_roundg (T - (t + 1))
              case measure => omega
              case rel => exact ⟨t + 1, rfl, by omega, by go_num, by rw [e.out]; exact hownH.out, htcH.out⟩
    · obtain rfl : t = T := by omega
      have hli := h2H.out
      have hlin : ((pst t).length : Int) = (n : Int) := by omega
      rcases ho.2 with ⟨hv, hl0⟩ | ⟨gv, cv, cur, hv, _, _, _, _, _, _⟩
      · omega
      · subst hv
        have hcs := Lib.hid (own_cells ho)
        replace htc := Lib.hid htc
        clear ho
        have hlf : ¬ ((pst t).length : Int) < (n : Int) := by omega
        clear hlin
        replace hli := Lib.hid hli
        go_wp2_with fail
        go_ret
        exact ⟨_, rfl, ⟨gv, cv, rfl, hcs.out⟩, htc.out⟩
end Go.Proofs.YtbiioaggilaebaaGreatDoor.Ref
set_option linter.unusedVariables false
set_option linter.unusedSimpArgs false
namespace Go.Proofs.YtbiioaggilaebaaGreatDoor.Tm
open Go Go.RowKit Go.Proofs.YtbiioaggilaebaaGreatDoor.B Go.Proofs.YtbiioaggilaebaaGreatDoor.Bld
mutual
def FK (ok : Nat → Prop) (w : World) : F → List Value → Prop
  | .mk b t l, cs => ∃ A c, cs = [.bool b, .string ⟨t.toArray⟩, .slice A l.length c] ∧ l.length ≤ c ∧ l.length ≤ 140737488355328 ∧ FKs ok w A 0 l
def FKs (ok : Nat → Prop) (w : World) (A : Option Addr) : Nat → List F → Prop
  | _, [] => True
  | i, f :: l => (∃ b o c0 c1 c2, A = some ⟨b, o, none⟩ ∧ ok b ∧ w.cell? ⟨b, o + i * 3, none⟩ = some c0 ∧ w.cell? ⟨b, o + i * 3 + 1, none⟩ = some c1 ∧ w.cell? ⟨b, o + i * 3 + 2, none⟩ = some c2 ∧ FK ok w f [c0, c1, c2]) ∧ FKs ok w A (i + 1) l
end
mutual
theorem FK.move {ok ok' : Nat → Prop} {w w' : World} (hm : ∀ b, ok b → ok' b ∧ w'.heap[b]? = w.heap[b]?) : ∀ (f : F) (cs : List Value), FK ok w f cs → FK ok' w' f cs
  | .mk b t l, cs, h => by
    unfold FK at h ⊢
    obtain ⟨A, c, h1, h2, h3, h4⟩ := h
    exact ⟨A, c, h1, h2, h3, FKs.move hm l A 0 h4⟩
theorem FKs.move {ok ok' : Nat → Prop} {w w' : World} (hm : ∀ b, ok b → ok' b ∧ w'.heap[b]? = w.heap[b]?) : ∀ (l : List F) (A : Option Addr) (i : Nat), FKs ok w A i l → FKs ok' w' A i l
  | [], _, _, _ => by unfold FKs; trivial
  | f :: l, A, i, h => by
    unfold FKs at h ⊢
    obtain ⟨⟨b, o, c0, c1, c2, h1, h2, h3, h4, h5, h6⟩, h7⟩ := h
    have e := (hm b h2).2
    exact ⟨⟨b, o, c0, c1, c2, h1, (hm b h2).1, (World.cell?_of_block (a := ⟨b, _, none⟩) e).trans h3, (World.cell?_of_block (a := ⟨b, _, none⟩) e).trans h4, (World.cell?_of_block (a := ⟨b, _, none⟩) e).trans h5, FK.move hm f _ h6⟩, FKs.move hm l A (i + 1) h7⟩
end
mutual
theorem FK.toFV {ok : Nat → Prop} {B : Nat} {w : World} (hm : ∀ b, ok b → b < B) : ∀ (f : F) (cs : List Value), FK ok w f cs → FV B w f cs
  | .mk b t l, cs, h => by
    unfold FK at h
    unfold FV
    obtain ⟨A, c, h1, h2, h3, h4⟩ := h
    exact ⟨A, c, h1, h2, h3, FKs.toFV hm l A 0 h4⟩
theorem FKs.toFV {ok : Nat → Prop} {B : Nat} {w : World} (hm : ∀ b, ok b → b < B) : ∀ (l : List F) (A : Option Addr) (i : Nat), FKs ok w A i l → FVs B w A i l
  | [], _, _, _ => by unfold FVs; trivial
  | f :: l, A, i, h => by
    unfold FKs at h
    unfold FVs
    obtain ⟨⟨b, o, c0, c1, c2, h1, h2, h3, h4, h5, h6⟩, h7⟩ := h
    exact ⟨⟨b, o, c0, c1, c2, h1, hm b h2, h3, h4, h5, FK.toFV hm f _ h6⟩, FKs.toFV hm l A (i + 1) h7⟩
end
theorem FK.text (ok : Nat → Prop) (w : World) (s : ByteArray) : FK ok w (txt s.data.toList) [.bool false, .string s, .slice none 0 0] := by
  unfold txt FK
  exact ⟨none, 0, rfl, Nat.le_refl _, by simp, by unfold FKs; trivial⟩
theorem FK.cells {ok : Nat → Prop} {w : World} {f : F} {c0 c1 c2 : Value} (h : FK ok w f [c0, c1, c2]) : c0.oneCell' = true ∧ c1.oneCell' = true ∧ c2.oneCell' = true := by
  obtain ⟨b, t, l⟩ := f
  unfold FK at h
  obtain ⟨A, c, h1, _⟩ := h
  simp only [List.cons.injEq, and_true] at h1
  obtain ⟨rfl, rfl, rfl⟩ := h1
  exact ⟨rfl, rfl, rfl⟩
def FC (ok : Nat → Prop) (w : World) : List F → List Value → Prop
  | [], cs => cs = []
  | f :: l, cs => ∃ c0 c1 c2 r, cs = c0 :: c1 :: c2 :: r ∧ FK ok w f [c0, c1, c2] ∧ FC ok w l r
theorem FC.move {ok ok' : Nat → Prop} {w w' : World} (hm : ∀ b, ok b → ok' b ∧ w'.heap[b]? = w.heap[b]?) : ∀ {l : List F} {cs : List Value}, FC ok w l cs → FC ok' w' l cs
  | [], _, h => h
  | f :: l, cs, ⟨c0, c1, c2, r, h1, h2, h3⟩ => ⟨c0, c1, c2, r, h1, FK.move hm f _ h2, FC.move hm h3⟩
theorem FC.snoc {ok : Nat → Prop} {w : World} {f : F} {a b c : Value} (hf : FK ok w f [a, b, c]) : ∀ {l : List F} {cs : List Value}, FC ok w l cs → FC ok w (l ++ [f]) (cs ++ [a, b, c])
  | [], _, h => by
    cases h
    exact ⟨a, b, c, [], rfl, hf, rfl⟩
  | g :: l, cs, ⟨c0, c1, c2, r, h1, h2, h3⟩ => ⟨c0, c1, c2, r ++ [a, b, c], by rw [h1]; rfl, h2, FC.snoc hf h3⟩
theorem FC.toFKs {ok ok' : Nat → Prop} {w : World} {b o : Nat} (hok : ∀ k, ok k → ok' k) (hb : ok' b) : ∀ {l : List F} {cs : List Value} (i : Nat), FC ok w l cs → (∀ j u, cs[j]? = some u → w.cell? ⟨b, o + i * 3 + j, none⟩ = some u) → FKs ok' w (some ⟨b, o, none⟩) i l
  | [], _, _, _, _ => by unfold FKs; trivial
  | f :: l, cs, i, ⟨c0, c1, c2, r, h1, h2, h3⟩, hc => by
    subst h1
    unfold FKs
    refine ⟨⟨b, o, c0, c1, c2, rfl, hb, hc 0 c0 rfl, hc 1 c1 rfl, hc 2 c2 rfl, FK.move (fun k hk => ⟨hok k hk, rfl⟩) f _ h2⟩, FC.toFKs hok hb (i + 1) h3 fun j u hu => ?_⟩
    have := hc (j + 3) u (by simpa using hu)
    rwa [show o + i * 3 + (j + 3) = o + (i + 1) * 3 + j from by omega] at this
def Bag (base : Nat) (w : World) (v : Value) (L : List F) : Prop :=
  ∃ cs, w.ownsRow base 74 3 v L.length cs ∧ FC (fun b => base ≤ b ∧ b < w.heap.size ∧ some b ≠ v.ownBlock) w L cs
theorem Bag.nil (base : Nat) (w : World) : Bag base w (.slice none 0 0) [] := ⟨[], ⟨rfl, .inl ⟨rfl, rfl⟩⟩, rfl⟩
theorem Bag.lt {base : Nat} {w : World} {v : Value} {L : List F} (h : Bag base w v L) (k : Nat) (hk : v.ownBlock = some k) : base ≤ k ∧ k < w.heap.size := by
  obtain ⟨cs, h1, _⟩ := h
  have := h1.lt k hk
  exact ⟨this.1, this.2⟩
theorem Bag.keep {base : Nat} {w w' : World} {v : Value} {L : List F} (h : Bag base w v L) (hk : ∀ b, base ≤ b → b < w.heap.size → w'.heap[b]? = w.heap[b]?) (hs : w.heap.size ≤ w'.heap.size) : Bag base w' v L := by
  have hlt := h.lt
  obtain ⟨cs, h1, h2⟩ := h
  refine ⟨cs, ?_, FC.move (fun b hb => ⟨⟨hb.1, Nat.lt_of_lt_of_le hb.2.1 hs, hb.2.2⟩, hk b hb.1 hb.2.1⟩) h2⟩
  obtain ⟨k1, k2⟩ := h1
  refine ⟨k1, ?_⟩
  rcases k2 with k2 | ⟨g, cap, cur, e1, e2, e3, e4⟩
  · exact .inl k2
  · have := hlt g (by rw [e1]; rfl)
    exact .inr ⟨g, cap, cur, e1, e2, (hk g e2 this.2).trans e3, e4⟩
theorem Bag.push {base : Nat} {w w' : World} {v : Value} {L : List F} {cs : List Value} {f : F} {a b c : Value} {g cap : Nat} (h2 : FC (fun b => base ≤ b ∧ b < w.heap.size ∧ some b ≠ v.ownBlock) w L cs)
    (hf : FK (fun b => base ≤ b ∧ b < w.heap.size ∧ some b ≠ v.ownBlock) w f [a, b, c])
    (ho : w'.ownsRow base 74 3 (.slice (some ⟨g, 0, none⟩) (L.length + 1) cap) (L.length + 1) (cs ++ [a, b, c])) (hg : w.grownBy w' v.ownBlock) (hv : v.ownBlock = some g ∨ w.heap.size ≤ g) :
    Bag base w' (.slice (some ⟨g, 0, none⟩) (L.length + 1) cap) (L ++ [f]) := by
  have hm : ∀ b, (base ≤ b ∧ b < w.heap.size ∧ some b ≠ v.ownBlock) → (base ≤ b ∧ b < w'.heap.size ∧ some b ≠ (Value.slice (some ⟨g, 0, none⟩) (L.length + 1) cap).ownBlock) ∧ w'.heap[b]? = w.heap[b]? := by
    intro b ⟨h1, h2, h3⟩
    refine ⟨⟨h1, Nat.lt_of_lt_of_le h2 hg.size, ?_⟩, hg.block b h2 h3⟩
    show some b ≠ some g
    intro e
    injection e with e
    subst e
    rcases hv with hv | hv
    · exact h3 hv.symm
    · omega
  have e : (L ++ [f]).length = L.length + 1 := by simp
  exact ⟨cs ++ [a, b, c], by rw [e]; exact ho, FC.snoc (FK.move hm f _ hf) (FC.move hm h2)⟩
theorem Bag.form {base : Nat} {w : World} {v : Value} {L : List F} (h : Bag base w v L) : ∃ A c, v = .slice A L.length c ∧ L.length ≤ c ∧ c ≤ maxLen ∧ FKs (fun b => base ≤ b ∧ b < w.heap.size) w A 0 L := by
  have hlt := h.lt
  obtain ⟨cs, ⟨k1, k2⟩, h2⟩ := h
  rcases k2 with ⟨rfl, h0⟩ | ⟨g, cap, cur, rfl, e2, e3, e4, e5, e6, e7⟩
  · obtain rfl : L = [] := List.eq_nil_of_length_eq_zero h0
    exact ⟨none, 0, rfl, Nat.le_refl _, by decide, by unfold FKs; trivial⟩
  · refine ⟨some ⟨g, 0, none⟩, cap, rfl, e4, e5, FC.toFKs (fun k hk => ⟨hk.1, hk.2.1⟩) (hlt g rfl) 0 h2 fun j u hu => ?_⟩
    have hj : j < L.length * 3 := by
      rw [← k1]
      exact (List.getElem?_eq_some_iff.1 hu).1
    rw [show 0 + 0 * 3 + j = j from by omega, cell_of e3]
    rw [← e7, List.getElem?_take, if_pos hj, Array.getElem?_toList] at hu
    exact hu
mutual
def F.small : F → Bool
  | .mk _ t l => decide (t.length ≤ 65536) && decide (l.length ≤ 65536) && smalls l
def smalls : List F → Bool
  | [] => true
  | f :: l => f.small && smalls l
end
theorem smalls_append : ∀ {a b : List F}, smalls (a ++ b) = (smalls a && smalls b)
  | [], b => by rw [List.nil_append, smalls, Bool.true_and]
  | f :: a, b => by rw [List.cons_append, smalls, smalls, smalls_append, Bool.and_assoc]
theorem small_txt (t : List UInt8) (h : t.length ≤ 65536) : (txt t).small = true := by
  unfold txt F.small smalls
  simp [h]
theorem small_lst (l : List F) (hl : l.length ≤ 65536) (h : smalls l = true) : (F.mk true [] l).small = true := by
  rw [F.small, h, decide_eq_true hl]
  rfl
theorem list_head {f : F} {x s : List UInt8} (hf : f.right = true) (h : 40 :: s = f.bytes ++ x) : ∃ gs, f = .mk true [] gs ∧ rights gs = true ∧ s = bytess gs ++ 41 :: x := by
  obtain ⟨b, t, l⟩ := f
  cases b with
  | true =>
    unfold F.right at hf
    simp only [Bool.and_eq_true] at hf
    have ht : t = [] := by simpa using hf.1
    subst ht
    unfold F.bytes at h
    simp only [List.cons_append, List.append_assoc, List.cons.injEq, true_and, List.nil_append] at h
    exact ⟨l, rfl, hf.2, h⟩
  | false =>
    unfold F.right at hf
    have : l = [] := by simpa using hf
    subst this
    obtain ⟨c, r, h1, h2⟩ := text_head t
    rw [h1] at h
    simp only [List.cons_append, List.cons.injEq] at h
    rw [← h.1] at h2
    simp at h2
theorem text_form {f : F} {x s : List UInt8} (hf : f.right = true) (h : s = f.bytes ++ x) (h0 : s[0]? ≠ some 40) : ∃ t, f = txt t ∧ s = Lib.decDigits t.length ++ 58 :: (t ++ x) := by
  obtain ⟨b, t, l⟩ := f
  cases b with
  | true =>
    exfalso
    unfold F.bytes at h
    rw [h] at h0
    simp at h0
  | false =>
    unfold F.right at hf
    have : l = [] := by simpa using hf
    subst this
    refine ⟨t, rfl, ?_⟩
    rw [h, F.bytes]
    simp
def ItemSpec (deep : Nat) (s : List UInt8) (f : F) (ok : Bool) (r : List UInt8) : Prop :=
  (r.length ≤ s.length ∧ (ok = true → f.small = true)) ∧ (ok = true → r.length < s.length) ∧ ∀ f' x, f'.right = true → f'.depth + deep ≤ 8 → s = f'.bytes ++ x → ok = true ∧ f = f' ∧ r = x
def LoopSpec (deep : Nat) (s : List UInt8) (L : List F) (r : List UInt8) : Prop :=
  (r.length + L.length ≤ s.length ∧ smalls L = true) ∧ ∀ gs x, rights gs = true → depths gs + 1 + deep ≤ 8 → s = bytess gs ++ 41 :: x → ∃ more, gs = L ++ more ∧ r = bytess more ++ 41 :: x
theorem loop_zero (deep : Nat) (s : List UInt8) : LoopSpec deep s [] s := ⟨⟨by simp, by rw [smalls]⟩, fun gs x _ _ h => ⟨gs, rfl, h⟩⟩
theorem rights_append : ∀ {a b : List F}, rights (a ++ b) = (rights a && rights b)
  | [], b => rfl
  | f :: a, b => by rw [List.cons_append, rights, rights, rights_append, Bool.and_assoc]
theorem depths_append : ∀ {a b : List F}, depths (a ++ b) = max (depths a) (depths b)
  | [], b => by simp [depths]
  | f :: a, b => by rw [List.cons_append, depths, depths, depths_append, Nat.max_assoc]
theorem loop_split {deep : Nat} {s : List UInt8} {L : List F} {r : List UInt8} (h : LoopSpec deep s L r) (h0 : r[0]? ≠ some 41) {gs : List F} {x : List UInt8} (hr : rights gs = true) (hd : depths gs + 1 + deep ≤ 8) (hs : s = bytess gs ++ 41 :: x) :
    ∃ m ms, gs = L ++ m :: ms ∧ m.right = true ∧ m.depth + (deep + 1) ≤ 8 ∧ r = m.bytes ++ (bytess ms ++ 41 :: x) := by
  obtain ⟨more, h1, h2⟩ := h.2 gs x hr hd hs
  cases more with
  | nil =>
    exfalso
    rw [h2] at h0
    simp [bytess] at h0
  | cons m ms =>
    rw [h1, rights_append, Bool.and_eq_true, rights, Bool.and_eq_true] at hr
    rw [h1, depths_append, depths] at hd
    refine ⟨m, ms, h1, hr.2.1, by omega, ?_⟩
    rw [h2, bytess, List.append_assoc]
theorem loop_step {deep : Nat} {s : List UInt8} {L : List F} {r r' : List UInt8} {f : F} (h : LoopSpec deep s L r) (h0 : r[0]? ≠ some 41) (hi : ItemSpec (deep + 1) r f true r') : LoopSpec deep s (L ++ [f]) r' := by
  refine ⟨⟨by have := h.1.1; have := hi.2.1 rfl; simp; omega, by rw [smalls_append, h.1.2, smalls, smalls, hi.1.2 rfl]; rfl⟩, fun gs x hr hd hs => ?_⟩
  obtain ⟨m, ms, h1, h2, h3, h4⟩ := loop_split h h0 hr hd hs
  obtain ⟨_, rfl, rfl⟩ := hi.2.2 m _ h2 h3 h4
  exact ⟨ms, by simp [h1], rfl⟩
theorem item_fail {deep : Nat} {s : List UInt8} {L : List F} {r r' : List UInt8} {f : F} (h : LoopSpec deep s L r) (h0 : r[0]? ≠ some 41) (hi : ItemSpec (deep + 1) r f false r') (f0 : F) : ItemSpec deep (40 :: s) f0 false r' := by
  refine ⟨⟨by have := h.1.1; have := hi.1.1; simp; omega, fun h => (by cases h)⟩, fun h => (by cases h), fun f' x hr hd hs => ?_⟩
  exfalso
  obtain ⟨gs, rfl, h1, h2⟩ := list_head hr hs
  unfold F.depth at hd
  obtain ⟨m, ms, _, h4, h5, h6⟩ := loop_split h h0 h1 (by omega) h2
  exact absurd (hi.2.2 m _ h4 h5 h6).1 (by simp)
theorem item_stop {deep : Nat} {s : List UInt8} {L : List F} {r : List UInt8} (h : LoopSpec deep s L r) (h0 : 8 ≤ deep ∨ r = []) (f0 : F) : ItemSpec deep (40 :: s) f0 false r := by
  refine ⟨⟨by have := h.1.1; simp; omega, fun h => (by cases h)⟩, fun h => (by cases h), fun f' x hr hd hs => ?_⟩
  exfalso
  obtain ⟨gs, rfl, h1, h2⟩ := list_head hr hs
  unfold F.depth at hd
  rcases h0 with h0 | h0
  · omega
  · obtain ⟨more, _, h4⟩ := h.2 gs x h1 (by omega) h2
    rw [h0] at h4
    simp at h4
theorem item_end {deep : Nat} {s : List UInt8} {L : List F} {r : List UInt8} (h : LoopSpec deep s L (41 :: r)) (hb : L.length ≤ 65536) : ItemSpec deep (40 :: s) (.mk true [] L) true r := by
  have hl := h.1.1
  simp only [List.length_cons] at hl
  refine ⟨⟨by simp; omega, fun _ => small_lst L hb h.1.2⟩, fun _ => by simp; omega, fun f' x hr hd hs => ?_⟩
  obtain ⟨gs, rfl, h1, h2⟩ := list_head hr hs
  unfold F.depth at hd
  obtain ⟨more, h3, h4⟩ := h.2 gs x h1 (by omega) h2
  cases more with
  | nil =>
    simp only [bytess, List.nil_append, List.cons.injEq, true_and] at h4
    rw [h3, List.append_nil]
    exact ⟨rfl, rfl, h4⟩
  | cons m ms =>
    exfalso
    rw [h3, rights_append, Bool.and_eq_true, rights, Bool.and_eq_true] at h1
    obtain ⟨c, q, h5, h6⟩ := form_head m h1.2.1
    rw [bytess, h5] at h4
    simp only [List.cons_append, List.cons.injEq] at h4
    rw [← h4.1] at h6
    simp at h6
theorem bytes_len (t : List UInt8) : t.length ≤ (txt t).bytes.length := by
  unfold txt F.bytes
  simp; omega
theorem item_text {deep : Nat} {s r : List UInt8} {n : Int} {ok : Bool} (h0 : s[0]? ≠ some 40) (hs : s.length ≤ 65536) (h : LenSpec s n ok r) (hok : ok = true) : ItemSpec deep s (txt (r.take n.toNat)) true (r.drop n.toNat) := by
  obtain ⟨h1, h2, h3⟩ := h
  obtain ⟨h4, h5, h6⟩ := h2 hok
  refine ⟨⟨by rw [List.length_drop]; omega, fun _ => small_txt _ (by rw [List.length_take]; omega)⟩, fun _ => by rw [List.length_drop]; omega, fun f' x hr hd hs' => ?_⟩
  obtain ⟨t, rfl, h7⟩ := text_form hr hs' h0
  have ht := bytes_len t
  have : s.length = ((txt t).bytes ++ x).length := by rw [hs']
  rw [List.length_append] at this
  obtain ⟨_, rfl, rfl⟩ := h3 t x (by omega) h7
  rw [show ((t.length : Int)).toNat = t.length from by omega, List.take_left' rfl, List.drop_left' rfl]
  exact ⟨rfl, rfl, rfl⟩
theorem item_notext {deep : Nat} {s r : List UInt8} {n : Int} {ok : Bool} (h0 : s[0]? ≠ some 40) (hs : s.length ≤ 65536) (h : LenSpec s n ok r) (hok : ok = false) (f0 : F) : ItemSpec deep s f0 false r := by
  obtain ⟨h1, h2, h3⟩ := h
  refine ⟨⟨h1, fun h => (by cases h)⟩, fun h => (by cases h), fun f' x hr hd hs' => ?_⟩
  exfalso
  obtain ⟨t, rfl, h7⟩ := text_form hr hs' h0
  have ht := bytes_len t
  have : s.length = ((txt t).bytes ++ x).length := by rw [hs']
  rw [List.length_append] at this
  have := (h3 t x (by omega) h7).1
  rw [hok] at this
  cases this
end Go.Proofs.YtbiioaggilaebaaGreatDoor.Tm
set_option linter.unusedVariables false
set_option linter.unusedSimpArgs false
namespace Go.Proofs.YtbiioaggilaebaaGreatDoor.Sha
open Go.RowKit Go.Proofs.YtbiioaggilaebaaGreatDoor.B
set_option maxRecDepth 100000 in
set_option maxHeartbeats 4000000 in
theorem Hex_any (b : ByteArray) (hsz : b.size ≤ 70368744177664) (w : World) :
    Calls Tryz.prog 73 #[.string b] w fun e w' => e = .returned (.string ⟨(hexL b.data.toList).toArray⟩) ∧ Tch (fun _ => False) w w' := by
  have hsz := Lib.hid hsz
  obtain ⟨cap, w1, cells, fz, hcv, hbw, hsz1, hg, hcs, hcap, htk, hfz, _⟩ := bytes_of w b
  have hown0 := Lib.hid (own_nil w1 w1.heap.size)
  have hbw := Lib.hid hbw
  have hcs := Lib.hid hcs
  have htk := Lib.hid htk
  have hg := Lib.hid hg
  clear hfz hcap
  obtain ⟨i8, hi8, hz8, hs8, hb8⟩ := info8
  go_enter Tryz.func73, Tryz.ntmps73
  go_wp2_with fail
  go_loopg [3, 9] b.size (fun g v i W => ∃ j : Nat, g = b.size - j ∧ j ≤ b.size ∧ i = .int .i64 j ∧ W.ownsRow w1.heap.size 5 1 v (j * 2) (bc (hexL (b.data.toList.take j))) ∧ Tch (fun _ => False) w1 W)
  case atStart => exact ⟨0, rfl, by omega, rfl, hown0.out, Tch.refl _ _⟩
  case round =>
    clear hown0
    obtain ⟨j, hgj, hj, rfl, ho, ht⟩ := hrel
    subst hgj
    by_cases hjl : j < b.size
    · have hcell := byte_cell (ht.heap hg.out (fun e => e)) htk.out j hjl
      have hji : (j : Int) < (b.size : Int) := by omega
      have hoH := Lib.hid ho
      have htH := Lib.hid ht
      clear ho ht
      generalize hc : b.data.toList.getD j 0 = c at hcell
      replace hc := Lib.hid hc
      obtain ⟨n, hn⟩ : ∃ n : Int, (c.toNat : Int) = n := ⟨_, rfl⟩
      rw [hn] at hcell
      have hn0 : (0 : Int) ≤ n / 16 := by have := c.toNat_lt; omega
      have hn1 : n / 16 < 16 := by have := c.toNat_lt; omega
      have hn2 : bits .and .u8 n 15 = n % 16 := nib2 hn
      have hn3 : (0 : Int) ≤ n % 16 := by omega
      have hn4 : n % 16 < 16 := by omega
      replace hn := Lib.hid hn
      have hnx : ∀ (w2 : World) (v : Value) (news : List Value), w2.ownsRow w1.heap.size 5 1 v (j * 2 + 2) (bc (hexL (b.data.toList.take j)) ++ news) → news = bc [dig (c.toNat / 16), dig (c.toNat % 16)] →
          w2.ownsRow w1.heap.size 5 1 v ((j + 1) * 2) (bc (hexL (b.data.toList.take (j + 1)))) := by
        intro w2 v news h1 h2
        subst h2
        rw [hex_next j (by rw [len_list]; exact hjl), hc.out, bc_append, show (j + 1) * 2 = j * 2 + 2 from by omega]; exact h1
      have hfin := Lib.hid hnx
      clear hnx
      go_wp2_with fail
      go_region_law
        ((refine step_append_lies _ (by rfl) _ _ _ (by rfl) w1.heap.size 5 i8 _ 1 1 Tryz.underlying69 hi8 hz8 hs8 hb8 rfl (by omega) u3 (j * 2) _ (by rfl) (hoH.out.alloc _).drew ⟨wr.heap.size, 0, none⟩ 2 2 _ (by rfl) (by rfl) (World.news_of_block (heap_alloc_at wr _)) (by simp [Value.oneCell']) (by omega) (by unfold maxLen; have := hsz.out; omega) (by have := hsz.out; omega) (by have := htH.out.size; simp; omega) (wr.heap.size + 1) (by simp) ?_; intro g cap2 w2 hown1 hgrow hat hlt))
      all_goals (try go_wp2_with fail)
      all_goals go_roundg (b.size - (j + 1))
      case measure => omega
      case measure => omega
      all_goals exact ⟨j + 1, rfl, by omega, by go_num, hfin.out _ _ _ hown1 (by simp only [bc, List.map_cons, List.map_nil, digat]; rw [show (n / 16).toNat = c.toNat / 16 from by have := hn.out; omega, show (n % 16).toNat = c.toNat % 16 from by have := hn.out; omega]), own_tch (htH.out.alloc _) (hoH.out.alloc _) (Nat.le_refl _) (undrew hgrow)⟩
    · have hji : ¬ (j : Int) < (b.size : Int) := by omega
      obtain rfl : j = b.size := by omega
      rw [List.take_of_length_le (by rw [len_list]; exact Nat.le_refl _), ← hexL_len' b] at ho
      have hcv := own_conv _ _ _ _ ho
      have htH := Lib.hid ht
      clear ho ht
      generalize hout : (⟨(hexL b.data.toList).toArray⟩ : ByteArray) = out at hcv
      replace hout := Lib.hid hout
      go_wp2_with fail
      go_ret
      exact ⟨by rw [hout.out]; rfl, (Tch.of_new hbw.out).trans (htH.out.mono fun _ h => h)⟩
def nameL (s : List UInt8) : List UInt8 := hexL (shaL K H0 s)
theorem shaL_len (s : List UInt8) : (shaL K H0 s).length = 32 := by
  unfold shaL
  rw [flat_len (runs_length K _ H0 _ (Nat.le_refl _) rfl)]
theorem sha_size (s : ByteArray) : (sha K H0 s).size = 32 := by rw [← len_list]; unfold sha; rw [List.toList_toArray, shaL_len]
theorem Name_any (s : ByteArray) (hsz : s.size ≤ 140737488351232) (w : World) :
    Calls Tryz.prog 37 #[.string s] w fun e w' => e = .returned (.string ⟨(nameL s.data.toList).toArray⟩) ∧ Tch (fun _ => False) w w' := by
  have hC := Lib.hid (Sum_any s hsz w)
  have hH := Lib.hid (fun w' => Hex_any (sha K H0 s) (by rw [sha_size]; omega) w')
  have hn : (⟨(hexL (sha K H0 s).data.toList).toArray⟩ : ByteArray) = ⟨(nameL s.data.toList).toArray⟩ := by unfold sha nameL; rw [List.toList_toArray]
  have hn := Lib.hid hn
  generalize sha K H0 s = d at hC hH hn
  go_enter Tryz.func37, Tryz.ntmps37
  go_wp2_with (first
    | (go_at_call 74; refine (hC.out).mono ?_; rintro e w1 ⟨rfl, h1⟩; have h1 := Lib.hid h1)
    | (go_at_call 73; refine (hH.out _).mono ?_; rintro e w2 ⟨rfl, h2⟩; have h2 := Lib.hid h2))
  go_ret
  exact ⟨by rw [← hn.out]; rfl, h1.out.trans h2.out⟩
end Go.Proofs.YtbiioaggilaebaaGreatDoor.Sha
set_option linter.unusedVariables false
set_option linter.unusedSimpArgs false
namespace Go.Proofs.YtbiioaggilaebaaGreatDoor.Ref
open Go.RowKit Go.Proofs.YtbiioaggilaebaaGreatDoor.B Go.Proofs.YtbiioaggilaebaaGreatDoor.Sha
def uvs (l : List (BitVec 32)) : List Value := l.map uv
theorem uvs_append (a b : List (BitVec 32)) : uvs (a ++ b) = uvs a ++ uvs b := List.map_append ..
theorem info32 : (Tryz.prog.info? 138).map (fun i => (i.zero, i.size, i.bytes)) = some (some (.int .u32 0), 1, 4) := by kernel_rfl
theorem rootN_lt (p q : Nat) : rootN p q < 4294967296 := Nat.mod_lt _ (by omega)
theorem tab_next (T q j : Nat) (hj : j < (pst T).length) : (tab 0 T q).take (j + 1) = (tab 0 T q).take j ++ [BitVec.ofNat 32 (rootN ((pst T).getD j 0) q)] := by
  rw [List.take_add_one]
  congr 1
  unfold tab
  rw [List.getElem?_map, List.getElem?_eq_getElem hj, List.getD_eq_getElem?_getD, List.getElem?_eq_getElem hj]
  rfl
theorem tab_app {w w0 w1 : World} {g cap T q j : Nat} {v : Value} {o : Obj} (ho : w.ownsRow w0.heap.size 138 1 v j (uvs ((tab 0 T q).take j))) (hj : j < (pst T).length) (ht : Tch (fun _ => False) w0 w)
    (h1 : w1.ownsRow w0.heap.size 138 1 (.slice (some ⟨g, 0, none⟩) (j + 1) cap) (j + 1) (uvs ((tab 0 T q).take j) ++ [.int .u32 ((rootN ((pst T).getD j 0) q : Nat) : Int)])) (h2 : (w.alloc o).grownBy w1 v.ownBlock) :
    w1.ownsRow w0.heap.size 138 1 (.slice (some ⟨g, 0, none⟩) (j + 1) cap) (j + 1) (uvs ((tab 0 T q).take (j + 1))) ∧ Tch (fun _ => False) w0 w1 := by
  rw [tab_next T q j hj, uvs_append]
  have e : uvs [BitVec.ofNat 32 (rootN ((pst T).getD j 0) q)] = [.int .u32 ((rootN ((pst T).getD j 0) q : Nat) : Int)] := by
    simp only [uvs, uv, List.map_cons, List.map_nil, nv_of _ (rootN_lt _ _)]
  rw [e]
  exact ⟨h1, own_tch (ht.alloc _) (ho.alloc _) (Nat.le_refl _) h2⟩
set_option maxRecDepth 100000 in
set_option maxHeartbeats 4000000 in
theorem Table_any (n T q : Nat) (hn : 1 ≤ n) (hn1 : n ≤ 100) (hT : T ≤ 400) (h1 : ∀ t, t < T → (pst t).length < n) (h2 : (pst T).length = n) (hq1 : 1 ≤ q) (hq : q ≤ 3) (w : World) :
    Calls Tryz.prog 91 #[.int .i64 (n : Int), .int .i64 (q : Int)] w fun e w' => ∃ v, e = .returned v ∧ w'.ownsRow w.heap.size 138 1 v n (uvs (tab 0 T q)) ∧ Tch (fun _ => False) w w' := by
  obtain ⟨i3, hi3, hz3, hs3, hb3⟩ := info_parts info32
  have hC := Lib.hid (primes_any n T hn hn1 hT h1 h2 w)
  have h2H := Lib.hid h2
  have hsm := Lib.hid (pst_small T)
  clear h1 h2
  go_enter Tryz.func91, Tryz.ntmps91
  go_wp2_with (go_at_call 130; refine (hC.out).mono ?_; rintro e w1 ⟨vp, rfl, hp, htp⟩; obtain ⟨gp, cp, rfl, hcp⟩ := hp; replace hcp := Lib.hid hcp; replace htp := Lib.hid htp)
  have hst := Lib.hid (show w1.ownsRow w1.heap.size 138 1 (.slice none 0 0) 0 (uvs ((tab 0 T q).take 0)) from ⟨rfl, .inl ⟨rfl, rfl⟩⟩)
  have hlen : ((pst T).length : Int) = (n : Int) := by have := h2H.out; omega
  go_loopg [5, 7] n (fun g v i W => ∃ j : Nat, g = n - j ∧ j ≤ n ∧ i = .int .i64 j ∧ W.ownsRow w1.heap.size 138 1 v j (uvs ((tab 0 T q).take j)) ∧ Tch (fun _ => False) w1 W)
  case atStart => exact ⟨0, rfl, by omega, rfl, hst.out, Tch.refl _ _⟩
  case round =>
    clear hst hC
    obtain ⟨j, hg, hj, rfl, ho, ht⟩ := hrel
    subst hg
    by_cases hjl : j < n
    · have hc := ht.cell (hcp.out j (by have := h2H.out; omega)) (fun e => e)
      have hji : (j : Int) < (n : Int) := by omega
      have hd := hsm.out ((pst T).getD j 0) (by rw [List.getD_eq_getElem?_getD, List.getElem?_eq_getElem (by have := h2H.out; omega)]; exact List.getElem_mem _)
      have hR := Lib.hid (root_any ((pst T).getD j 0) q hq1 hq (by omega) wr)
      have hoH := Lib.hid ho
      have htH := Lib.hid ht
      have hap := Lib.hid (fun g cap w1 w2 o (h0 : Tch (fun _ => False) wr w2) ho h1 h2 => tab_app (w := w2) (w1 := w1) (g := g) (cap := cap) (o := o) (v := u5) (q := q) ho (show j < (pst T).length from by have := h2H.out; omega) (htH.out.trans h0) h1 h2)
      clear ho ht
      generalize (pst T).getD j 0 = p at *
      generalize rootN p q = rr at *
      go_wp2_with (first
        | (go_at_call 131; refine (hR.out).mono ?_; rintro e w2 ⟨rfl, hw2⟩; have hw2H := Lib.hid hw2; have hown2 := Lib.hid (own_keep hoH.out hw2); clear hw2)
        | (at_builtin; refine wpList_append_lies _ (by rfl) _ _ _ (by rfl) w1.heap.size 138 i3 _ 1 4 Tryz.underlying135 hi3 hz3 hs3 hb3 rfl (by omega) u5 j _ (by rfl) (hown2.out.alloc _) ⟨w2.heap.size, 0, none⟩ 1 1 [.int .u32 (rr : Int)] (by rfl) (by rfl) (World.news_of_block (heap_alloc_at w2 _)) (by simp [Value.oneCell']) (by omega) (by unfold maxLen; omega) (by omega) (by simp; have := htH.out.size; have := hw2H.out.size; omega) (w2.heap.size + 1) (by simp) ?_; intro g cap w3 hown1 hgrow hat hlt))
      go_roundg (n - (j + 1))
      case measure => omega
      case rel =>
        have := hap.out _ _ _ _ _ hw2H.out hown2.out hown1 hgrow
        exact ⟨j + 1, rfl, by omega, by go_num, this.1, this.2⟩
    · obtain rfl : j = n := by omega
      rw [List.take_of_length_le (by unfold tab; rw [List.length_map, h2H.out]; exact Nat.le_refl _)] at ho
      have hoH := Lib.hid ho
      have htH := Lib.hid ht
      clear ho ht
      go_wp2_with fail
      go_ret
      exact ⟨_, rfl, hoH.out.mono htp.out.size, htp.out.trans htH.out⟩
theorem tabH' : tab 0 18 2 = H0 := tabH
theorem tabK' : tab 0 310 3 = K := tabK
theorem TableH (w : World) : Calls Tryz.prog 91 #[.int .i64 8, .int .i64 2] w fun e w' => ∃ v, e = .returned v ∧ w'.ownsRow w.heap.size 138 1 v 8 (uvs H0) ∧ Tch (fun _ => False) w w' := by
  have := Table_any 8 18 2 (by omega) (by omega) (by omega) (fun t ht => Nat.lt_of_le_of_lt (pst_mono t 17 (by omega)) pst8.1) pst8.2 (by omega) (by omega) w
  rwa [tabH'] at this
theorem TableK (w : World) : Calls Tryz.prog 91 #[.int .i64 64, .int .i64 3] w fun e w' => ∃ v, e = .returned v ∧ w'.ownsRow w.heap.size 138 1 v 64 (uvs K) ∧ Tch (fun _ => False) w w' := by
  have := Table_any 64 310 3 (by omega) (by omega) (by omega) (fun t ht => Nat.lt_of_le_of_lt (pst_mono t 309 (by omega)) pst64.1) pst64.2 (by omega) (by omega) w
  rwa [tabK'] at this
end Go.Proofs.YtbiioaggilaebaaGreatDoor.Ref
set_option linter.unusedVariables false
namespace Go.Proofs.YtbiioaggilaebaaGreatDoor.Tm
open Go
theorem dec_len5 (n : Nat) (h : n ≤ 65536) : (Lib.decDigits n).length ≤ 5 := by
  have e : ∀ n, n < 100000 → (Lib.decDigits n).length ≤ 5 := by
    intro n hn
    rw [Lib.decDigits]; split
    · simp
    · rw [List.length_append, Lib.decDigits]; split
      · simp
      · rw [List.length_append, Lib.decDigits]; split
        · simp
        · rw [List.length_append, Lib.decDigits]; split
          · simp
          · rw [List.length_append, Lib.decDigits, dif_pos (by omega)]; simp
  exact e n (by omega)
end Go.Proofs.YtbiioaggilaebaaGreatDoor.Tm
