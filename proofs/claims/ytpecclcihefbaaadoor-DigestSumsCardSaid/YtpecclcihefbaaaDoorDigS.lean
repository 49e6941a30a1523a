/- The walk of DigestSums. -/
import Derived.Test.YtpecclcihefbaaaDoorDigR
import Derived.Test.YtpecclcihefbaaaDoorRefS
set_option linter.unusedVariables false
set_option linter.unusedSimpArgs false
namespace Go.Proofs.YtpecclcihefbaaaDoor.Dig
open Go Go.RowKit Go.Proofs.YtpecclcihefbaaaDoor.B Go.Proofs.YtpecclcihefbaaaDoor.Sha
open Go.Proofs.YtpecclcihefbaaaDoor.Lin (bs bs_data bs_of bs_size size_list)

theorem tch_bel {w w1 : World} (h : Tch (fun _ => False) w w1) : Below w.heap.size w w1 := h.below (Nat.le_refl _) (fun _ h => h.elim)
theorem bel_tr {w w1 w2 : World} (h : Below w.heap.size w w1) (k : Below w1.heap.size w1 w2) : Below w.heap.size w w2 := h.trans (k.mono h.size)

theorem sums_skip (s : ByteArray) (w : World) (h : 3000 < s.size) :
    Calls Tryd.prog 6 #[.string s] w fun e w' => e = .returned (.bool true) ∧ Below w.heap.size w w' := by
  have C0 := Lib.hid (awake03 w)
  have hi : (3000 : Int) < (s.size : Int) := by omega
  go_enter Tryd.func6, Tryd.ntmps6
  go_wp2_with fail
  refine (C0.out).mono ?_
  rintro e w1 ⟨rfl, ht⟩
  replace ht := Lib.hid ht
  go_wp2_with fail
  go_ret
  exact ⟨rfl, tch_bel ht.out⟩

set_option maxRecDepth 100000 in
set_option maxHeartbeats 1000000 in
theorem sums_walk (s d n : ByteArray) (w : World) (hs : s.size ≤ 3000) (hd : d.size = 32)
    (CS : ∀ W, Calls Tryd.prog 17 #[.string s] W fun e w' => e = .returned (.string d) ∧ Below W.heap.size W w')
    (CN : ∀ W, Calls Tryd.prog 18 #[.string s] W fun e w' => e = .returned (.string n) ∧ Below W.heap.size W w')
    (CR : ∀ W, Calls Tryd.prog 19 #[.string s] W fun e w' => e = .returned (.string d) ∧ Below W.heap.size W w')
    (CH : ∀ W, Calls Tryd.prog 20 #[.string d] W fun e w' => e = .returned (.string n) ∧ Below W.heap.size W w')
    (CG : ∀ W, Calls Tryd.prog 21 #[.string n] W fun e w' => e = .returned (.bool true) ∧ Below W.heap.size W w') :
    Calls Tryd.prog 6 #[.string s] w fun e w' => e = .returned (.bool true) ∧ Below w.heap.size w w' := by
  have C0 := Lib.hid (awake03 w)
  have hi : ¬ (3000 : Int) < (s.size : Int) := by omega
  have h32 : ((d.size : Int) == 32) = true := by rw [beq_iff_eq]; omega
  replace CS := Lib.hid CS
  replace CN := Lib.hid CN
  replace CR := Lib.hid CR
  replace CH := Lib.hid CH
  replace CG := Lib.hid CG
  clear hd
  go_enter Tryd.func6, Tryd.ntmps6
  go_wp2_with fail
  refine (C0.out).mono ?_
  rintro e w1 ⟨rfl, ht⟩
  have hb := Lib.hid (tch_bel ht)
  clear ht
  go_wp2_with fail
  refine (CS.out _).mono ?_
  rintro e w2 ⟨rfl, hb2⟩
  replace hb := Lib.hid (bel_tr hb.out hb2)
  clear hb2
  go_wp2_with fail
  refine (CN.out _).mono ?_
  rintro e w3 ⟨rfl, hb2⟩
  replace hb := Lib.hid (bel_tr hb.out hb2)
  clear hb2
  go_wp2_with fail
  refine (CR.out _).mono ?_
  rintro e w4 ⟨rfl, hb2⟩
  replace hb := Lib.hid (bel_tr hb.out hb2)
  clear hb2
  go_wp2_with fail
  refine (CH.out _).mono ?_
  rintro e w5 ⟨rfl, hb2⟩
  replace hb := Lib.hid (bel_tr hb.out hb2)
  clear hb2
  go_wp2_with fail
  refine (CG.out _).mono ?_
  rintro e w6 ⟨rfl, hb2⟩
  replace hb := Lib.hid (bel_tr hb.out hb2)
  clear hb2
  go_wp2_with fail
  go_ret
  exact ⟨rfl, hb.out⟩

theorem sums_any (s : ByteArray) (w : World) :
    Calls Tryd.prog 6 #[.string s] w fun e w' => e = .returned (.bool true) ∧ Below w.heap.size w w' := by
  by_cases h : 3000 < s.size
  · exact sums_skip s w h
  · have e1 : (⟨(hexL (sha K H0 s).data.toList).toArray⟩ : ByteArray) = ⟨(nameL s.data.toList).toArray⟩ := by unfold sha nameL; rw [List.toList_toArray]
    have e2 : (⟨(nameL s.data.toList).toArray⟩ : ByteArray).size = 64 := by
      show (nameL s.data.toList).toArray.size = 64
      unfold nameL
      rw [List.size_toArray, hexL_len, shaL_len]
    have e3 : rightL (⟨(nameL s.data.toList).toArray⟩ : ByteArray).data.toList = true := by
      unfold rightL
      rw [size_list, e2, List.toList_toArray]
      unfold nameL
      rw [rawL_hexL]
      rfl
    have CH := fun W => (rHex_any (sha K H0 s) (by rw [sha_size]; omega) W)
    rw [e1] at CH
    have CG := fun W => right_any ⟨(nameL s.data.toList).toArray⟩ (by rw [e2]; omega) W
    rw [e3] at CG
    exact sums_walk s (sha K H0 s) ⟨(nameL s.data.toList).toArray⟩ w (by omega) (sha_size s)
      (fun W => (Sum_any s (by omega) W).mono fun e w' ⟨h1, h2⟩ => ⟨h1, tch_bel h2⟩)
      (fun W => (Name_any s (by omega) W).mono fun e w' ⟨h1, h2⟩ => ⟨h1, tch_bel h2⟩)
      (fun W => (Ref.RSum_any s (by omega) W).mono fun e w' ⟨h1, h2⟩ => ⟨h1, tch_bel h2⟩)
      (fun W => (CH W).mono fun e w' ⟨h1, h2⟩ => ⟨h1, tch_bel h2⟩) CG

end Go.Proofs.YtpecclcihefbaaaDoor.Dig
