/- The walk of DigestHex. -/
import Derived.Test.YtpecclcihefbaaaDoorDigR
import Derived.Test.YtpecclcihefbaaaDoorErrB
set_option linter.unusedVariables false
set_option linter.unusedSimpArgs false
namespace Go.Proofs.YtpecclcihefbaaaDoor.Dig
open Go Go.RowKit Go.Proofs.YtpecclcihefbaaaDoor.B Go.Proofs.YtpecclcihefbaaaDoor.Sha
open Go.Proofs.YtpecclcihefbaaaDoor.Lin (bs bs_data bs_of bs_size size_list)

theorem hex_skip (s : ByteArray) (w : World) (h : 20000 < s.size) :
    Calls Tryd.prog 8 #[.string s] w fun e w' => e = .returned (.bool true) ∧ Below w.heap.size w w' := by
  have C0 := Lib.hid (awake03 w)
  have hi : (20000 : Int) < (s.size : Int) := by omega
  go_enter Tryd.func8, Tryd.ntmps8
  go_wp2_with fail
  refine (C0.out).mono ?_
  rintro e w1 ⟨rfl, ht⟩
  replace ht := Lib.hid ht
  go_wp2_with fail
  go_ret
  exact ⟨rfl, ht.out.below (Nat.le_refl _) (fun _ h => h.elim)⟩

theorem Below.tr {w w1 w2 : World} (h : Below w.heap.size w w1) (k : Below w1.heap.size w1 w2) : Below w.heap.size w w2 := h.trans (k.mono h.size)
theorem Tch.bel {w w1 : World} (h : Tch (fun _ => False) w w1) : Below w.heap.size w w1 := h.below (Nat.le_refl _) (fun _ h => h.elim)

set_option maxRecDepth 100000 in
set_option maxHeartbeats 1000000 in
theorem hex_walk (s t h : ByteArray) (ev : Value) (n : Int) (q : Bool) (w : World) (he : Err.ErrT w) (hs : s.size ≤ 20000)
    (CH : ∀ W, Calls Tryd.prog 26 #[.string s] W fun e w' => e = .returned (.string h) ∧ Below W.heap.size W w')
    (CRh : ∀ W, Calls Tryd.prog 27 #[.string h] W fun e w' => e = .returned (.tuple #[.string s, .nilIface]) ∧ Below W.heap.size W w')
    (CRs : ∀ W, Calls Tryd.prog 27 #[.string s] W fun e w' => e = .returned (.tuple #[.string t, ev]) ∧ Below W.heap.size W w')
    (CRr : ∀ W, Calls Tryd.prog 28 #[.string s] W fun e w' => e = .returned (.tuple #[.string t, .int .i64 n]) ∧ Below W.heap.size W w')
    (CHr : ∀ W, Calls Tryd.prog 20 #[.string s] W fun e w' => e = .returned (.string h) ∧ Below W.heap.size W w')
    (CC : ∀ W, Err.ErrT W → Calls Tryd.prog 23 #[ev] W fun e w' => e = .returned (.int .i64 n) ∧ Below W.heap.size W w')
    (CG : ∀ W, Calls Tryd.prog 21 #[.string s] W fun e w' => e = .returned (.bool q) ∧ Below W.heap.size W w')
    (CGr : ∀ W, Calls Tryd.prog 29 #[.string s] W fun e w' => e = .returned (.bool q) ∧ Below W.heap.size W w') :
    Calls Tryd.prog 8 #[.string s] w fun e w' => e = .returned (.bool true) ∧ Below w.heap.size w w' := by
  have C0 := Lib.hid (awake03 w)
  have hi : ¬ (20000 : Int) < (s.size : Int) := by omega
  replace CH := Lib.hid CH
  replace CRh := Lib.hid CRh
  replace CRs := Lib.hid CRs
  replace CRr := Lib.hid CRr
  replace CHr := Lib.hid CHr
  replace CC := Lib.hid CC
  replace CG := Lib.hid CG
  replace CGr := Lib.hid CGr
  go_enter Tryd.func8, Tryd.ntmps8
  go_wp2_with fail
  refine (C0.out).mono ?_
  rintro e w1 ⟨rfl, ht⟩
  have hb := Lib.hid (Tch.bel ht)
  clear ht
  go_wp2_with fail
  refine (CH.out _).mono ?_
  rintro e w2 ⟨rfl, hb2⟩
  replace hb := Lib.hid (Below.tr hb.out hb2)
  clear hb2
  go_wp2_with fail
  refine (CRh.out _).mono ?_
  rintro e w3 ⟨rfl, hb2⟩
  replace hb := Lib.hid (Below.tr hb.out hb2)
  clear hb2
  go_wp2_with fail
  refine (CRs.out _).mono ?_
  rintro e w4 ⟨rfl, hb2⟩
  replace hb := Lib.hid (Below.tr hb.out hb2)
  clear hb2
  go_wp2_with fail
  refine (CRr.out _).mono ?_
  rintro e w5 ⟨rfl, hb2⟩
  replace hb := Lib.hid (Below.tr hb.out hb2)
  clear hb2
  go_wp2_with fail
  refine (CHr.out _).mono ?_
  rintro e w6 ⟨rfl, hb2⟩
  replace hb := Lib.hid (Below.tr hb.out hb2)
  clear hb2
  go_wp2_with fail
  refine (CC.out _ (he.below hb.out)).mono ?_
  rintro e w7 ⟨rfl, hb2⟩
  replace hb := Lib.hid (Below.tr hb.out hb2)
  clear hb2
  go_wp2_with fail
  refine (CG.out _).mono ?_
  rintro e w8 ⟨rfl, hb2⟩
  replace hb := Lib.hid (Below.tr hb.out hb2)
  clear hb2
  go_wp2_with fail
  refine (CGr.out _).mono ?_
  rintro e w9 ⟨rfl, hb2⟩
  replace hb := Lib.hid (Below.tr hb.out hb2)
  clear hb2
  cases q
  all_goals
    go_wp2_with fail
    go_ret
    exact ⟨rfl, hb.out⟩

theorem hex_any (s : ByteArray) (w : World) (he : Err.ErrT w) :
    Calls Tryd.prog 8 #[.string s] w fun e w' => e = .returned (.bool true) ∧ Below w.heap.size w w' := by
  by_cases h : 20000 < s.size
  · exact hex_skip s w h
  · have hhs : (bs (hexL s.data.toList)).size ≤ 1000000 := by rw [bs_size, hexL_len, size_list]; omega
    have C1 := fun W => (Hex_any s (by omega) W).mono fun e w' ⟨h1, h2⟩ => (⟨h1, Tch.bel h2⟩ : e = Ending.returned (.string (bs (hexL s.data.toList))) ∧ Below W.heap.size W w')
    have C2 := fun W => (rHex_any s (by omega) W).mono fun e w' ⟨h1, h2⟩ => (⟨h1, Tch.bel h2⟩ : e = Ending.returned (.string (bs (hexL s.data.toList))) ∧ Below W.heap.size W w')
    have C3 : ∀ W, Calls Tryd.prog 27 #[.string (bs (hexL s.data.toList))] W fun e w' => e = .returned (.tuple #[.string s, .nilIface]) ∧ Below W.heap.size W w' := fun W => by
      have := raw_any (bs (hexL s.data.toList)) hhs W
      unfold RawPost rawR at this
      rw [bs_data, rawL_hexL] at this
      unfold outR rawE at this
      simp only [List.nil_append, bs_of] at this
      exact this
    have C4 := fun W => raw_any s (by omega) W
    have C5 := fun W => rawRef s W (by omega)
    have C6 := fun W => right_any s (by omega) W
    have C7 := fun W => rightRef s W (by omega)
    unfold RawPost rawR at C4
    unfold rawR at C5
    cases hr : rawL s.data.toList with
    | none =>
      rw [hr] at C4 C5
      exact hex_walk s ⟨#[]⟩ _ _ 4 _ w he (by omega) C1 C3 C4 C5 C2 (fun W hW => Err.Code_errno 4 W hW) C6 C7
    | some r =>
      rw [hr] at C4 C5
      exact hex_walk s (bs ([] ++ r)) _ .nilIface 0 _ w he (by omega) C1 C3 C4 C5 C2 (fun W hW => (Err.Code_nil W).mono fun e w' ⟨h1, h2⟩ => ⟨h1, h2 ▸ Below.refl _ _⟩) C6 C7

end Go.Proofs.YtpecclcihefbaaaDoor.Dig
