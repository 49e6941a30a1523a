/- tambourlaw18.awake. -/
import Derived.Test.YtpecclcihefbaaaNetG
set_option linter.unusedVariables false
set_option linter.unusedSimpArgs false
namespace Go.Proofs.Ytpecclcihefbaaa.NetA
open Go.RowKit Go.Proofs.Ytpecclcihefbaaa.B

theorem upd_same (Q : Qs) (i j : Nat) (q : List Tx) : upd Q i j q i j = q := if_pos ⟨rfl, rfl⟩
theorem upd_other (Q : Qs) (i j k l : Nat) (q : List Tx) (h : ¬ (k = i ∧ l = j)) : upd Q i j q k l = Q k l := if_neg h

/-- Send with room. -/
def SendPost (σ : Shape) (Q : Qs) (i j : Nat) (q : List Tx) (w : World) (e : Ending) (w' : World) : Prop :=
  e = .returned (.bool true) ∧ NetQ w' σ (upd Q i j q) ∧ Tch σ.own w w'
theorem send_room (i j : Nat) (s : ByteArray) (w : World) (σ : Shape) (Q : Qs) (h : NetQ w σ Q) (hi : i < σ.n) (hj : j < σ.n) (hn : i ≠ j) (q : List Tx) (hq : Q i j = q) (hl : q.length < 200) :
    Calls Try.prog 8 #[.pointer (some ⟨σ.nb, 0, none⟩), .int .i64 i, .int .i64 j, .string s] w (SendPost σ Q i j (q ++ [(s, false)]) w) := by
  subst hq
  refine (send_in i j s w σ Q h hi hj hn).mono ?_
  rintro e w' ⟨rfl, h1, h2⟩
  refine ⟨by rw [roomy, decide_eq_true hl], ?_, h2⟩
  rw [pushed, if_pos hl] at h1; exact h1

def bs (c : UInt8) : ByteArray := ⟨#[c]⟩

set_option maxHeartbeats 1000000 in
theorem awake_any (w : World) : Calls Try.prog 6 #[] w fun e w' => e = .returned (.bool true) ∧ Below w.heap.size w w' := by
  have C1 := Lib.hid (new_in 2 w (by omega) (by omega))
  go_enter Try.func6, Try.ntmps6
  go_wp2_with fail
  refine (C1.out).mono ?_
  rintro e w1 ⟨σ, rfl, hσ, h1, ht1, hfr⟩
  have hown : ∀ k, σ.own k → k < w.heap.size → False := fun k hk hl => by have := hfr k (.inr (.inr (.inr hk))); omega
  have hown := Lib.hid hown
  have C2 : Hid (Calls Try.prog 8 #[.pointer (some ⟨σ.nb, 0, none⟩), .int .i64 0, .int .i64 1, .string ⟨#[97]⟩] w1 (SendPost σ _ 0 1 [(bs 97, false)] w1)) :=
    send_room 0 1 (bs 97) w1 σ _ h1 (by omega) (by omega) (by omega) [] rfl (by simp)
  clear hfr
  have ht1 := Lib.hid ht1
  have hσ := Lib.hid hσ
  clear C1 h1
  go_wp2_with fail
  refine (C2.out).mono ?_
  rintro e w2 ⟨rfl, h2, ht2⟩
  have C3 : Hid (Calls Try.prog 8 #[.pointer (some ⟨σ.nb, 0, none⟩), .int .i64 0, .int .i64 1, .string ⟨#[98]⟩] w2 (SendPost σ _ 0 1 [(bs 97, false), (bs 98, false)] w2)) :=
    send_room 0 1 (bs 98) w2 σ _ h2 (by have := hσ.out; omega) (by have := hσ.out; omega) (by omega) [(bs 97, false)] (upd_same _ _ _ _) (by simp)
  clear C2 h2
  go_wp2_with fail
  refine (C3.out).mono ?_
  rintro e w3 ⟨rfl, h3, ht3⟩
  have C4 : Hid (Calls Try.prog 12 #[.pointer (some ⟨σ.nb, 0, none⟩), .int .i64 0, .int .i64 1] w3 (NPost σ (.bool true) _ w3)) :=
    turn_in 0 1 (bs 97, false) [(bs 98, false)] w3 σ _ h3 (by have := hσ.out; omega) (by have := hσ.out; omega) (by omega) (upd_same _ _ _ _)
  clear C3 h3
  go_wp2_with fail
  refine (C4.out).mono ?_
  rintro e w4 ⟨rfl, h4, ht4⟩
  have C5 : Hid (Calls Try.prog 13 #[.pointer (some ⟨σ.nb, 0, none⟩), .int .i64 0, .int .i64 1] w4 (NPost σ (.tuple #[.string (bs 98), .bool true]) _ w4)) :=
    take_in 0 1 (bs 98, false) [(bs 97, false)] w4 σ _ h4 (by have := hσ.out; omega) (by have := hσ.out; omega) (by omega) (upd_same _ _ _ _)
  clear C4 h4
  go_wp2_with fail
  refine (C5.out).mono ?_
  rintro e w5 ⟨rfl, h5, ht5⟩
  have C6 : Hid (Calls Try.prog 10 #[.pointer (some ⟨σ.nb, 0, none⟩), .int .i64 0, .int .i64 1] w5 fun e w' => e = .returned (.int .i64 1) ∧ w5 = w') := by
    have := len_in 0 1 w5 σ _ h5 (by have := hσ.out; omega) (by have := hσ.out; omega) (by omega)
    rw [upd_same] at this; exact this
  have C7 : Hid (Calls Try.prog 11 #[.pointer (some ⟨σ.nb, 0, none⟩)] w5 fun e w' => e = .returned (.int .i64 1) ∧ w5 = w') := by
    have := all_any w5 σ _ h5
    rw [hσ.out] at this
    have e : ∀ Q : Qs, Q 0 1 = [(bs 97, false)] → Q 1 0 = [] → allSum Q 2 2 = 1 := fun Q q1 q2 => by simp [allSum, rowSum, lenOf, q1, q2]
    rw [e _ (upd_same _ _ _ _) (by simp [upd])] at this
    exact this
  have hz := Lib.hid (show Below w.heap.size w w5 from ht1.out.below (Nat.le_refl _) (fun k h => h.elim) |>.trans ((((ht2.trans ht3).trans ht4).trans ht5).below ht1.out.size (fun k hk hl => by
    by_cases e : k < w.heap.size
    · exact (hown.out k hk e).elim
    · omega)))
  clear C5 h5 ht2 ht3 ht4 ht5 ht1 hown
  have hb : bs 98 = ⟨#[98]⟩ := rfl
  rw [hb]
  clear hb
  go_wp2_with (first | (go_at_call 10; refine (C6.out).mono ?_; rintro e w' ⟨rfl, rfl⟩) | (go_at_call 11; refine (C7.out).mono ?_; rintro e w' ⟨rfl, rfl⟩))
  go_ret
  exact ⟨rfl, hz.out⟩

end Go.Proofs.Ytpecclcihefbaaa.NetA
