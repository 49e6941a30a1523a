/- The walks of package net: some, Send, Take, Double, Turn, Len. -/
import Derived.Test.YtpecclcihefbaaaNetC
import Derived.Deep.RegionWith
import Derived.StillTailTactics
set_option linter.unusedVariables false
set_option linter.unusedSimpArgs false
namespace Go.Proofs.Ytpecclcihefbaaa.NetA
open Go.RowKit Go.Proofs.Ytpecclcihefbaaa.B

/-- What a call of the net's leaves: a value, queues, and what it touched. -/
def NPost (σ : Shape) (v : Value) (Q : Qs) (w : World) (e : Ending) (w' : World) : Prop := e = .returned v ∧ NetQ w' σ Q ∧ Tch σ.own w w'

theorem len_eq (q : List Tx) (h : q.length = 0) : q = [] := List.eq_nil_of_length_eq_zero h

/-- some: there is no such way. -/
theorem some_none (i j : Int) (w : World) (σ : Shape) (Q : Qs) (h : NetQ w σ Q) (hn : ¬ There σ.n i j) :
    Calls Try.prog 20 #[.pointer (some ⟨σ.nb, 0, none⟩), .int .i64 i, .int .i64 j] w fun e w' => e = .returned (.pointer none) ∧ w = w' := by
  have C := Lib.hid (way_none i j w σ Q h hn)
  clear h hn
  go_enter Try.func20, Try.ntmps20
  go_wp2_with (go_at_call 18; refine (C.out).mono ?_; rintro e w' ⟨rfl, rfl⟩)
  go_ret
  exact ⟨rfl, rfl⟩

/-- some: nothing is on it. -/
theorem some_empty (i j : Nat) (w : World) (σ : Shape) (Q : Qs) (h : NetQ w σ Q) (hi : i < σ.n) (hj : j < σ.n) (hn : i ≠ j) (h0 : (Q i j).length = 0) :
    Calls Try.prog 20 #[.pointer (some ⟨σ.nb, 0, none⟩), .int .i64 i, .int .i64 j] w fun e w' => e = .returned (.pointer none) ∧ w = w' := by
  have C := Lib.hid (way_in i j w σ Q h hi hj hn)
  have hc := (h.q i j hi hj hn).n
  rw [h0] at hc
  clear h hn h0
  go_enter Try.func20, Try.ntmps20
  go_wp2_with (go_at_call 18; refine (C.out).mono ?_; rintro e w' ⟨rfl, rfl⟩)
  go_ret
  exact ⟨rfl, rfl⟩

theorem some_some (i j : Nat) (w : World) (σ : Shape) (Q : Qs) (h : NetQ w σ Q) (hi : i < σ.n) (hj : j < σ.n) (hn : i ≠ j) (h0 : 0 < (Q i j).length) :
    Calls Try.prog 20 #[.pointer (some ⟨σ.nb, 0, none⟩), .int .i64 i, .int .i64 j] w fun e w' => e = .returned (.pointer (some ⟨σ.wb i j, 0, none⟩)) ∧ w = w' := by
  have C := Lib.hid (way_in i j w σ Q h hi hj hn)
  have hc := (h.q i j hi hj hn).n
  generalize (Q i j).length = m at *
  have hne : ((m : Int) == 0) = false := by simp; omega
  clear h hn
  go_enter Try.func20, Try.ntmps20
  go_wp2_with (go_at_call 18; refine (C.out).mono ?_; rintro e w' ⟨rfl, rfl⟩)
  go_ret
  exact ⟨rfl, rfl⟩

/-- Send -/
theorem send_none (i j : Int) (s : ByteArray) (w : World) (σ : Shape) (Q : Qs) (h : NetQ w σ Q) (hn : ¬ There σ.n i j) :
    Calls Try.prog 8 #[.pointer (some ⟨σ.nb, 0, none⟩), .int .i64 i, .int .i64 j, .string s] w fun e w' => e = .returned (.bool false) ∧ w = w' := by
  have C := Lib.hid (way_none i j w σ Q h hn)
  clear h hn
  go_enter Try.func8, Try.ntmps8
  go_wp2_with (go_at_call 18; refine (C.out).mono ?_; rintro e w' ⟨rfl, rfl⟩)
  go_ret
  exact ⟨rfl, rfl⟩

theorem send_in (i j : Nat) (s : ByteArray) (w : World) (σ : Shape) (Q : Qs) (h : NetQ w σ Q) (hi : i < σ.n) (hj : j < σ.n) (hn : i ≠ j) :
    Calls Try.prog 8 #[.pointer (some ⟨σ.nb, 0, none⟩), .int .i64 i, .int .i64 j, .string s] w
      (NPost σ (.bool (roomy (Q i j))) (upd Q i j (pushed (Q i j) (s, false))) w) := by
  have C := Lib.hid (way_in i j w σ Q h hi hj hn)
  have C2 := Lib.hid (push_any (σ.wb i j) (Q i j) s false w (h.q i j hi hj hn))
  have Fin : ∀ w', WayQ w' (σ.wb i j) (pushed (Q i j) (s, false)) → Tch (fun k => k = σ.wb i j) w w' →
      NPost σ (.bool (roomy (Q i j))) (upd Q i j (pushed (Q i j) (s, false))) w (.returned (.bool (roomy (Q i j)))) w' :=
    fun w' h1 h2 => ⟨rfl, h.set hi hj hn h2 h1, Tch.way hi hj hn h2⟩
  have FinH := Lib.hid Fin
  clear h hn Fin
  go_enter Try.func8, Try.ntmps8
  go_wp2_with (first | (go_at_call 18; refine (C.out).mono ?_; rintro e w' ⟨rfl, rfl⟩) | (go_at_call 19; refine (C2.out).mono ?_; rintro e w' ⟨rfl, hq, ht⟩))
  go_ret
  exact FinH.out _ hq ht

/-- Len -/
theorem len_none (i j : Int) (w : World) (σ : Shape) (Q : Qs) (h : NetQ w σ Q) (hn : ¬ There σ.n i j) :
    Calls Try.prog 10 #[.pointer (some ⟨σ.nb, 0, none⟩), .int .i64 i, .int .i64 j] w fun e w' => e = .returned (.int .i64 0) ∧ w = w' := by
  have C := Lib.hid (way_none i j w σ Q h hn)
  clear h hn
  go_enter Try.func10, Try.ntmps10
  go_wp2_with (go_at_call 18; refine (C.out).mono ?_; rintro e w' ⟨rfl, rfl⟩)
  go_ret
  exact ⟨rfl, rfl⟩
theorem len_in (i j : Nat) (w : World) (σ : Shape) (Q : Qs) (h : NetQ w σ Q) (hi : i < σ.n) (hj : j < σ.n) (hn : i ≠ j) :
    Calls Try.prog 10 #[.pointer (some ⟨σ.nb, 0, none⟩), .int .i64 i, .int .i64 j] w fun e w' => e = .returned (.int .i64 (Q i j).length) ∧ w = w' := by
  have C := Lib.hid (way_in i j w σ Q h hi hj hn)
  have hc := (h.q i j hi hj hn).n
  clear h hn
  go_enter Try.func10, Try.ntmps10
  go_wp2_with (go_at_call 18; refine (C.out).mono ?_; rintro e w' ⟨rfl, rfl⟩)
  go_ret
  exact ⟨rfl, rfl⟩

/-- Take -/
theorem take_no (i j : Int) (w : World) (σ : Shape) (Q : Qs) (h : NetQ w σ Q) (hn : ¬ There σ.n i j ∨ (Q i.toNat j.toNat).length = 0) :
    Calls Try.prog 13 #[.pointer (some ⟨σ.nb, 0, none⟩), .int .i64 i, .int .i64 j] w fun e w' => e = .returned (.tuple #[.string ByteArray.empty, .bool false]) ∧ w = w' := by
  have C : Hid (Calls Try.prog 20 #[.pointer (some ⟨σ.nb, 0, none⟩), .int .i64 i, .int .i64 j] w fun e w' => e = .returned (.pointer none) ∧ w = w') := by
    by_cases ht : There σ.n i j
    · rcases hn with hn | hn
      · exact absurd ht hn
      · obtain ⟨⟨a1, a2⟩, ⟨a3, a4⟩, a5⟩ := ht
        obtain ⟨m, rfl⟩ := Int.eq_ofNat_of_zero_le a1
        obtain ⟨k, rfl⟩ := Int.eq_ofNat_of_zero_le a3
        exact some_empty m k w σ Q h (by omega) (by omega) (by omega) hn
    · exact some_none i j w σ Q h ht
  clear h hn
  go_enter Try.func13, Try.ntmps13
  go_wp2_with (go_at_call 20; refine (C.out).mono ?_; rintro e w' ⟨rfl, rfl⟩)
  go_ret2
  exact ⟨rfl, rfl⟩
theorem take_in (i j : Nat) (x : Tx) (r : List Tx) (w : World) (σ : Shape) (Q : Qs) (h : NetQ w σ Q) (hi : i < σ.n) (hj : j < σ.n) (hn : i ≠ j) (hq : Q i j = x :: r) :
    Calls Try.prog 13 #[.pointer (some ⟨σ.nb, 0, none⟩), .int .i64 i, .int .i64 j] w
      (NPost σ (.tuple #[.string x.1, .bool true]) (upd Q i j r) w) := by
  have C := Lib.hid (some_some i j w σ Q h hi hj hn (by rw [hq]; simp))
  have C2 := Lib.hid (pop_any (σ.wb i j) x r w (hq ▸ h.q i j hi hj hn))
  have Fin : ∀ w', WayQ w' (σ.wb i j) r → Tch (fun k => k = σ.wb i j) w w' →
      NPost σ (.tuple #[.string x.1, .bool true]) (upd Q i j r) w (.returned (.tuple #[.string x.1, .bool true])) w' :=
    fun w' h1 h2 => ⟨rfl, h.set hi hj hn h2 h1, Tch.way hi hj hn h2⟩
  have FinH := Lib.hid Fin
  clear h hn Fin hq
  obtain ⟨s, o⟩ := x
  simp only at *
  have hfd : ∀ w : World, (Instr.field 51 (.agg #[.string s, .bool o]) 0).run Try.prog w = .ok (.string s) w := fun _ => by kernel_rfl
  go_enter Try.func13, Try.ntmps13
  go_wp2_with (first | (go_at_call 20; refine (C.out).mono ?_; rintro e w' ⟨rfl, rfl⟩) | (go_at_call 21; refine (C2.out).mono ?_; rintro e w' ⟨rfl, hq, ht⟩))
  go_ret2
  exact FinH.out _ hq ht

/-- Turn -/
theorem turn_no (i j : Int) (w : World) (σ : Shape) (Q : Qs) (h : NetQ w σ Q) (hn : ¬ There σ.n i j ∨ (Q i.toNat j.toNat).length = 0) :
    Calls Try.prog 12 #[.pointer (some ⟨σ.nb, 0, none⟩), .int .i64 i, .int .i64 j] w fun e w' => e = .returned (.bool false) ∧ w = w' := by
  have C : Hid (Calls Try.prog 20 #[.pointer (some ⟨σ.nb, 0, none⟩), .int .i64 i, .int .i64 j] w fun e w' => e = .returned (.pointer none) ∧ w = w') := by
    by_cases ht : There σ.n i j
    · rcases hn with hn | hn
      · exact absurd ht hn
      · obtain ⟨⟨a1, a2⟩, ⟨a3, a4⟩, a5⟩ := ht
        obtain ⟨m, rfl⟩ := Int.eq_ofNat_of_zero_le a1
        obtain ⟨k, rfl⟩ := Int.eq_ofNat_of_zero_le a3
        exact some_empty m k w σ Q h (by omega) (by omega) (by omega) hn
    · exact some_none i j w σ Q h ht
  clear h hn
  go_enter Try.func12, Try.ntmps12
  go_wp2_with (go_at_call 20; refine (C.out).mono ?_; rintro e w' ⟨rfl, rfl⟩)
  go_ret
  exact ⟨rfl, rfl⟩
theorem turn_in (i j : Nat) (x : Tx) (r : List Tx) (w : World) (σ : Shape) (Q : Qs) (h : NetQ w σ Q) (hi : i < σ.n) (hj : j < σ.n) (hn : i ≠ j) (hq : Q i j = x :: r) :
    Calls Try.prog 12 #[.pointer (some ⟨σ.nb, 0, none⟩), .int .i64 i, .int .i64 j] w
      (NPost σ (.bool true) (upd Q i j (r ++ [x])) w) := by
  have hle := (h.q i j hi hj hn).le
  rw [hq] at hle
  simp only [List.length_cons] at hle
  have C := Lib.hid (some_some i j w σ Q h hi hj hn (by rw [hq]; simp))
  have C2 := Lib.hid (pop_any (σ.wb i j) x r w (hq ▸ h.q i j hi hj hn))
  have hd : roomy r = true := by simp [roomy]; omega
  have hp : pushed r x = r ++ [x] := if_pos (by omega)
  have C3 : Hid (∀ w1 o, WayQ w1 (σ.wb i j) r → Calls Try.prog 19 #[.pointer (some ⟨σ.wb i j, 0, none⟩), .agg #[.string x.1, .bool x.2]] (w1.alloc o) (PushPost (w1.alloc o) (σ.wb i j) r x)) :=
    fun w1 o hw => push_any (σ.wb i j) r x.1 x.2 (w1.alloc o) (hw.tch ((Tch.refl (fun _ => False) w1).alloc o) (fun e => e))
  have Fin : ∀ w1 w' o, Tch (fun k => k = σ.wb i j) w w1 → WayQ w' (σ.wb i j) (pushed r x) → Tch (fun k => k = σ.wb i j) (w1.alloc o) w' →
      NPost σ (.bool true) (upd Q i j (r ++ [x])) w (.returned (.bool (roomy r))) w' := by
    intro w1 w' o h1 h2 h3
    rw [hd]
    rw [hp] at h2
    have h4 := (h1.alloc o).trans h3
    exact ⟨rfl, h.set hi hj hn h4 h2, Tch.way hi hj hn h4⟩
  have FinH := Lib.hid Fin
  clear h hn Fin hq hd hp hle
  obtain ⟨s, o⟩ := x
  simp only at *
  go_enter Try.func12, Try.ntmps12
  go_wp2_with (first | (go_at_call 20; refine (C.out).mono ?_; rintro e w' ⟨rfl, rfl⟩) | (go_at_call 21; refine (C2.out).mono ?_; rintro e w1 ⟨rfl, hq, ht⟩))
  go_wp2_with (go_at_call 19; refine (C3.out _ _ hq).mono ?_; rintro e w2 ⟨rfl, hq2, ht2⟩)
  go_ret
  exact FinH.out _ _ _ ht hq2 ht2

/-- Double -/
theorem double_no' (i j : Int) (w : World) (σ : Shape) (Q : Qs) (h : NetQ w σ Q) (hn : ¬ There σ.n i j ∨ (Q i.toNat j.toNat).length = 0) :
    Calls Try.prog 9 #[.pointer (some ⟨σ.nb, 0, none⟩), .int .i64 i, .int .i64 j] w fun e w' => e = .returned (.bool false) ∧ ∃ n, w' = w.drewN n := by
  have C : Hid (Calls Try.prog 20 #[.pointer (some ⟨σ.nb, 0, none⟩), .int .i64 i, .int .i64 j] w fun e w' => e = .returned (.pointer none) ∧ w = w') := by
    by_cases ht : There σ.n i j
    · rcases hn with hn | hn
      · exact absurd ht hn
      · obtain ⟨⟨a1, a2⟩, ⟨a3, a4⟩, a5⟩ := ht
        obtain ⟨m, rfl⟩ := Int.eq_ofNat_of_zero_le a1
        obtain ⟨k, rfl⟩ := Int.eq_ofNat_of_zero_le a3
        exact some_empty m k w σ Q h (by omega) (by omega) (by omega) hn
    · exact some_none i j w σ Q h ht
  clear h hn
  go_enter Try.func9, Try.ntmps9
  go_wp2_with (go_at_call 20; refine (C.out).mono ?_; rintro e w' ⟨rfl, rfl⟩)
  go_quiet (fail)
  go_wp2
  go_ret
  exact ⟨rfl, _, rfl⟩
set_option maxRecDepth 100000 in
set_option maxHeartbeats 1000000 in
theorem double_in (i j : Nat) (x : Tx) (r : List Tx) (w : World) (σ : Shape) (Q : Qs) (h : NetQ w σ Q) (hi : i < σ.n) (hj : j < σ.n) (hn : i ≠ j) (hq : Q i j = x :: r) :
    Calls Try.prog 9 #[.pointer (some ⟨σ.nb, 0, none⟩), .int .i64 i, .int .i64 j] w
      (NPost σ (.bool (roomy (Q i j))) (upd Q i j (pushed (Q i j) x)) w) := by
  have C := Lib.hid (some_some i j w σ Q h hi hj hn (by rw [hq]; simp))
  have C3 : Hid (∀ w1, WayQ w1 (σ.wb i j) (Q i j) → Calls Try.prog 19 #[.pointer (some ⟨σ.wb i j, 0, none⟩), .agg #[.string x.1, .bool x.2]] w1 (PushPost w1 (σ.wb i j) (Q i j) x)) :=
    fun w1 hw => push_any (σ.wb i j) (Q i j) x.1 x.2 w1 hw
  have hw := h.q i j hi hj hn
  have Fin : ∀ w1 w', Tch (fun k => k = σ.wb i j) w w1 → WayQ w' (σ.wb i j) (pushed (Q i j) x) → Tch (fun k => k = σ.wb i j) w1 w' →
      NPost σ (.bool (roomy (Q i j))) (upd Q i j (pushed (Q i j) x)) w (.returned (.bool (roomy (Q i j)))) w' := by
    intro w1 w' h1 h2 h3
    have h4 := h1.trans h3
    exact ⟨rfl, h.set hi hj hn h4 h2, Tch.way hi hj hn h4⟩
  have FinH := Lib.hid Fin
  have hx : ∃ L first, Ring w (σ.wb i j) L first (Q i j).length ∧ L.getD first d0 = x := by
    obtain ⟨L, first, hr, hk⟩ := hw
    refine ⟨L, first, hr, ?_⟩
    have hfl := hr.fl
    have := hk 0 (by rw [hq]; simp)
    rw [show (first + 0) % 200 = first from by omega, hq] at this
    simpa using this
  obtain ⟨L, first, hr, hx⟩ := hx
  have hfl := hr.fl
  have hs := ring_s hr first hfl
  have ho := ring_o hr first hfl
  have hf := ring_first hr
  rw [hx] at hs ho
  have hwH := Lib.hid (C3.out w.drew (hw.tch ((Tch.refl (fun _ => False) w).drew) (fun e => e)))
  clear h hn Fin hq hr hx hw
  obtain ⟨s, o⟩ := x
  simp only at *
  go_enter Try.func9, Try.ntmps9
  go_wp2_with (first | (go_at_call 20; refine (C.out).mono ?_; rintro e w' ⟨rfl, rfl⟩))
  refine wp_region_still_tail 13 (by kernel_rfl) (by kernel_rfl) ?_
  change wpStill _ _ w.drew _ _ _
  simp only [List.take_succ_cons, List.take_zero, List.drop_succ_cons, List.drop_zero]
  have hfi : (first : Int) < 200 := by omega
  repeat still_step
  refine wpStill_nil ?_
  change wpList _ _ _ _ _ w.drew
  go_wp2_with (go_at_call 19; refine (hwH.out).mono ?_; rintro e w2 ⟨rfl, hq2, ht2⟩)
  all_goals go_ret
  all_goals exact FinH.out _ _ (Tch.refl _ _).drew hq2 ht2

end Go.Proofs.Ytpecclcihefbaaa.NetA
