/- The walks of digest.turn, tambourref03.turn. -/
import Derived.Test.YtpecclcihefbaaaDoorProg
import Derived.Test.YtpecclcihefbaaaDoorShaP
set_option linter.unusedVariables false
set_option linter.unusedSimpArgs false
namespace Go.Proofs.YtpecclcihefbaaaDoor.Sha
open Go.RowKit Go.Proofs.YtpecclcihefbaaaDoor.B

/-- The counts that occur. -/
def Cnt (n : Int) : Prop := n = 2 ∨ n = 6 ∨ n = 7 ∨ n = 11 ∨ n = 13 ∨ n = 17 ∨ n = 18 ∨ n = 19 ∨ n = 22 ∨ n = 25

theorem ret_int {k : IntKind} {a b : Int} (h : a = b) : Ending.returned (.int k a) = .returned (.int k b) := by rw [h]

theorem ror_val (x : W) (n : Nat) : bits .or .u32 (nv x / 2 ^ n) ((nv x * 2 ^ (32 - n)) % 4294967296) = nv (ror x n) := by
  rw [nv_shr, nv_shl, nv_or]; rfl
theorem ror_val2 (x : W) (n : Nat) : bits .or .u32 ((nv x * 2 ^ (32 - n)) % 4294967296) (nv x / 2 ^ n) = nv (ror x n) := by
  rw [nv_shr, nv_shl, nv_or]
  unfold ror
  congr 1
  exact BitVec.or_comm _ _

theorem rot_2 (x : W) (w : World) :
    Calls Tryd.prog 74 #[.int .u32 (nv x), .int .i64 (-2)] w fun e w' => e = .returned (.int .u32 (nv (ror x 2))) ∧ w = w' := by
  have hr := Lib.hid (ror_val2 x 2)
  have hk : bits .and .u64 (IntKind.u64.wrap (-2)) 31 = 30 := by decide +kernel
  generalize ror x 2 = y at *
  go_enter Tryd.func74, Tryd.ntmps74
  go_wp2
  go_ret
  exact ⟨ret_int (by first | exact hr.out | simpa [IntKind.wrap_u32] using hr.out), rfl⟩
theorem turn_2 (x : W) (w : World) :
    Calls Tryd.prog 48 #[.int .u32 (nv x), .int .i64 2] w fun e w' => e = .returned (.int .u32 (nv (ror x 2))) ∧ w = w' := by
  have C := Lib.hid (rot_2 x w)
  go_enter Tryd.func48, Tryd.ntmps48
  go_wp2_with (go_at_call 74; refine (C.out).mono ?_; rintro e w' ⟨rfl, rfl⟩)
  go_ret
  exact ⟨rfl, rfl⟩
theorem rturn_2 (x : W) (w : World) :
    Calls Tryd.prog 36 #[.int .u32 (nv x), .int .i64 2] w fun e w' => e = .returned (.int .u32 (nv (ror x 2))) ∧ ∃ n, w' = w.drewN n := by
  have hr := Lib.hid (ror_val x 2)
  generalize ror x 2 = y at *
  go_enter Tryd.func36, Tryd.ntmps36
  go_wp2
  go_quiet (fail)
  go_wp2
  go_ret
  exact ⟨ret_int (by first | exact hr.out | simpa [IntKind.wrap_u32] using hr.out), ⟨_, rfl⟩⟩

theorem rot_6 (x : W) (w : World) :
    Calls Tryd.prog 74 #[.int .u32 (nv x), .int .i64 (-6)] w fun e w' => e = .returned (.int .u32 (nv (ror x 6))) ∧ w = w' := by
  have hr := Lib.hid (ror_val2 x 6)
  have hk : bits .and .u64 (IntKind.u64.wrap (-6)) 31 = 26 := by decide +kernel
  generalize ror x 6 = y at *
  go_enter Tryd.func74, Tryd.ntmps74
  go_wp2
  go_ret
  exact ⟨ret_int (by first | exact hr.out | simpa [IntKind.wrap_u32] using hr.out), rfl⟩
theorem turn_6 (x : W) (w : World) :
    Calls Tryd.prog 48 #[.int .u32 (nv x), .int .i64 6] w fun e w' => e = .returned (.int .u32 (nv (ror x 6))) ∧ w = w' := by
  have C := Lib.hid (rot_6 x w)
  go_enter Tryd.func48, Tryd.ntmps48
  go_wp2_with (go_at_call 74; refine (C.out).mono ?_; rintro e w' ⟨rfl, rfl⟩)
  go_ret
  exact ⟨rfl, rfl⟩
theorem rturn_6 (x : W) (w : World) :
    Calls Tryd.prog 36 #[.int .u32 (nv x), .int .i64 6] w fun e w' => e = .returned (.int .u32 (nv (ror x 6))) ∧ ∃ n, w' = w.drewN n := by
  have hr := Lib.hid (ror_val x 6)
  generalize ror x 6 = y at *
  go_enter Tryd.func36, Tryd.ntmps36
  go_wp2
  go_quiet (fail)
  go_wp2
  go_ret
  exact ⟨ret_int (by first | exact hr.out | simpa [IntKind.wrap_u32] using hr.out), ⟨_, rfl⟩⟩

theorem rot_7 (x : W) (w : World) :
    Calls Tryd.prog 74 #[.int .u32 (nv x), .int .i64 (-7)] w fun e w' => e = .returned (.int .u32 (nv (ror x 7))) ∧ w = w' := by
  have hr := Lib.hid (ror_val2 x 7)
  have hk : bits .and .u64 (IntKind.u64.wrap (-7)) 31 = 25 := by decide +kernel
  generalize ror x 7 = y at *
  go_enter Tryd.func74, Tryd.ntmps74
  go_wp2
  go_ret
  exact ⟨ret_int (by first | exact hr.out | simpa [IntKind.wrap_u32] using hr.out), rfl⟩
theorem turn_7 (x : W) (w : World) :
    Calls Tryd.prog 48 #[.int .u32 (nv x), .int .i64 7] w fun e w' => e = .returned (.int .u32 (nv (ror x 7))) ∧ w = w' := by
  have C := Lib.hid (rot_7 x w)
  go_enter Tryd.func48, Tryd.ntmps48
  go_wp2_with (go_at_call 74; refine (C.out).mono ?_; rintro e w' ⟨rfl, rfl⟩)
  go_ret
  exact ⟨rfl, rfl⟩
theorem rturn_7 (x : W) (w : World) :
    Calls Tryd.prog 36 #[.int .u32 (nv x), .int .i64 7] w fun e w' => e = .returned (.int .u32 (nv (ror x 7))) ∧ ∃ n, w' = w.drewN n := by
  have hr := Lib.hid (ror_val x 7)
  generalize ror x 7 = y at *
  go_enter Tryd.func36, Tryd.ntmps36
  go_wp2
  go_quiet (fail)
  go_wp2
  go_ret
  exact ⟨ret_int (by first | exact hr.out | simpa [IntKind.wrap_u32] using hr.out), ⟨_, rfl⟩⟩

theorem rot_11 (x : W) (w : World) :
    Calls Tryd.prog 74 #[.int .u32 (nv x), .int .i64 (-11)] w fun e w' => e = .returned (.int .u32 (nv (ror x 11))) ∧ w = w' := by
  have hr := Lib.hid (ror_val2 x 11)
  have hk : bits .and .u64 (IntKind.u64.wrap (-11)) 31 = 21 := by decide +kernel
  generalize ror x 11 = y at *
  go_enter Tryd.func74, Tryd.ntmps74
  go_wp2
  go_ret
  exact ⟨ret_int (by first | exact hr.out | simpa [IntKind.wrap_u32] using hr.out), rfl⟩
theorem turn_11 (x : W) (w : World) :
    Calls Tryd.prog 48 #[.int .u32 (nv x), .int .i64 11] w fun e w' => e = .returned (.int .u32 (nv (ror x 11))) ∧ w = w' := by
  have C := Lib.hid (rot_11 x w)
  go_enter Tryd.func48, Tryd.ntmps48
  go_wp2_with (go_at_call 74; refine (C.out).mono ?_; rintro e w' ⟨rfl, rfl⟩)
  go_ret
  exact ⟨rfl, rfl⟩
theorem rturn_11 (x : W) (w : World) :
    Calls Tryd.prog 36 #[.int .u32 (nv x), .int .i64 11] w fun e w' => e = .returned (.int .u32 (nv (ror x 11))) ∧ ∃ n, w' = w.drewN n := by
  have hr := Lib.hid (ror_val x 11)
  generalize ror x 11 = y at *
  go_enter Tryd.func36, Tryd.ntmps36
  go_wp2
  go_quiet (fail)
  go_wp2
  go_ret
  exact ⟨ret_int (by first | exact hr.out | simpa [IntKind.wrap_u32] using hr.out), ⟨_, rfl⟩⟩

theorem rot_13 (x : W) (w : World) :
    Calls Tryd.prog 74 #[.int .u32 (nv x), .int .i64 (-13)] w fun e w' => e = .returned (.int .u32 (nv (ror x 13))) ∧ w = w' := by
  have hr := Lib.hid (ror_val2 x 13)
  have hk : bits .and .u64 (IntKind.u64.wrap (-13)) 31 = 19 := by decide +kernel
  generalize ror x 13 = y at *
  go_enter Tryd.func74, Tryd.ntmps74
  go_wp2
  go_ret
  exact ⟨ret_int (by first | exact hr.out | simpa [IntKind.wrap_u32] using hr.out), rfl⟩
theorem turn_13 (x : W) (w : World) :
    Calls Tryd.prog 48 #[.int .u32 (nv x), .int .i64 13] w fun e w' => e = .returned (.int .u32 (nv (ror x 13))) ∧ w = w' := by
  have C := Lib.hid (rot_13 x w)
  go_enter Tryd.func48, Tryd.ntmps48
  go_wp2_with (go_at_call 74; refine (C.out).mono ?_; rintro e w' ⟨rfl, rfl⟩)
  go_ret
  exact ⟨rfl, rfl⟩
theorem rturn_13 (x : W) (w : World) :
    Calls Tryd.prog 36 #[.int .u32 (nv x), .int .i64 13] w fun e w' => e = .returned (.int .u32 (nv (ror x 13))) ∧ ∃ n, w' = w.drewN n := by
  have hr := Lib.hid (ror_val x 13)
  generalize ror x 13 = y at *
  go_enter Tryd.func36, Tryd.ntmps36
  go_wp2
  go_quiet (fail)
  go_wp2
  go_ret
  exact ⟨ret_int (by first | exact hr.out | simpa [IntKind.wrap_u32] using hr.out), ⟨_, rfl⟩⟩

theorem rot_17 (x : W) (w : World) :
    Calls Tryd.prog 74 #[.int .u32 (nv x), .int .i64 (-17)] w fun e w' => e = .returned (.int .u32 (nv (ror x 17))) ∧ w = w' := by
  have hr := Lib.hid (ror_val2 x 17)
  have hk : bits .and .u64 (IntKind.u64.wrap (-17)) 31 = 15 := by decide +kernel
  generalize ror x 17 = y at *
  go_enter Tryd.func74, Tryd.ntmps74
  go_wp2
  go_ret
  exact ⟨ret_int (by first | exact hr.out | simpa [IntKind.wrap_u32] using hr.out), rfl⟩
theorem turn_17 (x : W) (w : World) :
    Calls Tryd.prog 48 #[.int .u32 (nv x), .int .i64 17] w fun e w' => e = .returned (.int .u32 (nv (ror x 17))) ∧ w = w' := by
  have C := Lib.hid (rot_17 x w)
  go_enter Tryd.func48, Tryd.ntmps48
  go_wp2_with (go_at_call 74; refine (C.out).mono ?_; rintro e w' ⟨rfl, rfl⟩)
  go_ret
  exact ⟨rfl, rfl⟩
theorem rturn_17 (x : W) (w : World) :
    Calls Tryd.prog 36 #[.int .u32 (nv x), .int .i64 17] w fun e w' => e = .returned (.int .u32 (nv (ror x 17))) ∧ ∃ n, w' = w.drewN n := by
  have hr := Lib.hid (ror_val x 17)
  generalize ror x 17 = y at *
  go_enter Tryd.func36, Tryd.ntmps36
  go_wp2
  go_quiet (fail)
  go_wp2
  go_ret
  exact ⟨ret_int (by first | exact hr.out | simpa [IntKind.wrap_u32] using hr.out), ⟨_, rfl⟩⟩

theorem rot_18 (x : W) (w : World) :
    Calls Tryd.prog 74 #[.int .u32 (nv x), .int .i64 (-18)] w fun e w' => e = .returned (.int .u32 (nv (ror x 18))) ∧ w = w' := by
  have hr := Lib.hid (ror_val2 x 18)
  have hk : bits .and .u64 (IntKind.u64.wrap (-18)) 31 = 14 := by decide +kernel
  generalize ror x 18 = y at *
  go_enter Tryd.func74, Tryd.ntmps74
  go_wp2
  go_ret
  exact ⟨ret_int (by first | exact hr.out | simpa [IntKind.wrap_u32] using hr.out), rfl⟩
theorem turn_18 (x : W) (w : World) :
    Calls Tryd.prog 48 #[.int .u32 (nv x), .int .i64 18] w fun e w' => e = .returned (.int .u32 (nv (ror x 18))) ∧ w = w' := by
  have C := Lib.hid (rot_18 x w)
  go_enter Tryd.func48, Tryd.ntmps48
  go_wp2_with (go_at_call 74; refine (C.out).mono ?_; rintro e w' ⟨rfl, rfl⟩)
  go_ret
  exact ⟨rfl, rfl⟩
theorem rturn_18 (x : W) (w : World) :
    Calls Tryd.prog 36 #[.int .u32 (nv x), .int .i64 18] w fun e w' => e = .returned (.int .u32 (nv (ror x 18))) ∧ ∃ n, w' = w.drewN n := by
  have hr := Lib.hid (ror_val x 18)
  generalize ror x 18 = y at *
  go_enter Tryd.func36, Tryd.ntmps36
  go_wp2
  go_quiet (fail)
  go_wp2
  go_ret
  exact ⟨ret_int (by first | exact hr.out | simpa [IntKind.wrap_u32] using hr.out), ⟨_, rfl⟩⟩

theorem rot_19 (x : W) (w : World) :
    Calls Tryd.prog 74 #[.int .u32 (nv x), .int .i64 (-19)] w fun e w' => e = .returned (.int .u32 (nv (ror x 19))) ∧ w = w' := by
  have hr := Lib.hid (ror_val2 x 19)
  have hk : bits .and .u64 (IntKind.u64.wrap (-19)) 31 = 13 := by decide +kernel
  generalize ror x 19 = y at *
  go_enter Tryd.func74, Tryd.ntmps74
  go_wp2
  go_ret
  exact ⟨ret_int (by first | exact hr.out | simpa [IntKind.wrap_u32] using hr.out), rfl⟩
theorem turn_19 (x : W) (w : World) :
    Calls Tryd.prog 48 #[.int .u32 (nv x), .int .i64 19] w fun e w' => e = .returned (.int .u32 (nv (ror x 19))) ∧ w = w' := by
  have C := Lib.hid (rot_19 x w)
  go_enter Tryd.func48, Tryd.ntmps48
  go_wp2_with (go_at_call 74; refine (C.out).mono ?_; rintro e w' ⟨rfl, rfl⟩)
  go_ret
  exact ⟨rfl, rfl⟩
theorem rturn_19 (x : W) (w : World) :
    Calls Tryd.prog 36 #[.int .u32 (nv x), .int .i64 19] w fun e w' => e = .returned (.int .u32 (nv (ror x 19))) ∧ ∃ n, w' = w.drewN n := by
  have hr := Lib.hid (ror_val x 19)
  generalize ror x 19 = y at *
  go_enter Tryd.func36, Tryd.ntmps36
  go_wp2
  go_quiet (fail)
  go_wp2
  go_ret
  exact ⟨ret_int (by first | exact hr.out | simpa [IntKind.wrap_u32] using hr.out), ⟨_, rfl⟩⟩

theorem rot_22 (x : W) (w : World) :
    Calls Tryd.prog 74 #[.int .u32 (nv x), .int .i64 (-22)] w fun e w' => e = .returned (.int .u32 (nv (ror x 22))) ∧ w = w' := by
  have hr := Lib.hid (ror_val2 x 22)
  have hk : bits .and .u64 (IntKind.u64.wrap (-22)) 31 = 10 := by decide +kernel
  generalize ror x 22 = y at *
  go_enter Tryd.func74, Tryd.ntmps74
  go_wp2
  go_ret
  exact ⟨ret_int (by first | exact hr.out | simpa [IntKind.wrap_u32] using hr.out), rfl⟩
theorem turn_22 (x : W) (w : World) :
    Calls Tryd.prog 48 #[.int .u32 (nv x), .int .i64 22] w fun e w' => e = .returned (.int .u32 (nv (ror x 22))) ∧ w = w' := by
  have C := Lib.hid (rot_22 x w)
  go_enter Tryd.func48, Tryd.ntmps48
  go_wp2_with (go_at_call 74; refine (C.out).mono ?_; rintro e w' ⟨rfl, rfl⟩)
  go_ret
  exact ⟨rfl, rfl⟩
theorem rturn_22 (x : W) (w : World) :
    Calls Tryd.prog 36 #[.int .u32 (nv x), .int .i64 22] w fun e w' => e = .returned (.int .u32 (nv (ror x 22))) ∧ ∃ n, w' = w.drewN n := by
  have hr := Lib.hid (ror_val x 22)
  generalize ror x 22 = y at *
  go_enter Tryd.func36, Tryd.ntmps36
  go_wp2
  go_quiet (fail)
  go_wp2
  go_ret
  exact ⟨ret_int (by first | exact hr.out | simpa [IntKind.wrap_u32] using hr.out), ⟨_, rfl⟩⟩

theorem rot_25 (x : W) (w : World) :
    Calls Tryd.prog 74 #[.int .u32 (nv x), .int .i64 (-25)] w fun e w' => e = .returned (.int .u32 (nv (ror x 25))) ∧ w = w' := by
  have hr := Lib.hid (ror_val2 x 25)
  have hk : bits .and .u64 (IntKind.u64.wrap (-25)) 31 = 7 := by decide +kernel
  generalize ror x 25 = y at *
  go_enter Tryd.func74, Tryd.ntmps74
  go_wp2
  go_ret
  exact ⟨ret_int (by first | exact hr.out | simpa [IntKind.wrap_u32] using hr.out), rfl⟩
theorem turn_25 (x : W) (w : World) :
    Calls Tryd.prog 48 #[.int .u32 (nv x), .int .i64 25] w fun e w' => e = .returned (.int .u32 (nv (ror x 25))) ∧ w = w' := by
  have C := Lib.hid (rot_25 x w)
  go_enter Tryd.func48, Tryd.ntmps48
  go_wp2_with (go_at_call 74; refine (C.out).mono ?_; rintro e w' ⟨rfl, rfl⟩)
  go_ret
  exact ⟨rfl, rfl⟩
theorem rturn_25 (x : W) (w : World) :
    Calls Tryd.prog 36 #[.int .u32 (nv x), .int .i64 25] w fun e w' => e = .returned (.int .u32 (nv (ror x 25))) ∧ ∃ n, w' = w.drewN n := by
  have hr := Lib.hid (ror_val x 25)
  generalize ror x 25 = y at *
  go_enter Tryd.func36, Tryd.ntmps36
  go_wp2
  go_quiet (fail)
  go_wp2
  go_ret
  exact ⟨ret_int (by first | exact hr.out | simpa [IntKind.wrap_u32] using hr.out), ⟨_, rfl⟩⟩

theorem turn_any (x : W) (n : Int) (hn : Cnt n) (w : World) :
    Calls Tryd.prog 48 #[.int .u32 (nv x), .int .i64 n] w fun e w' => e = .returned (.int .u32 (nv (ror x n.toNat))) ∧ w = w' := by
  rcases hn with rfl | rfl | rfl | rfl | rfl | rfl | rfl | rfl | rfl | rfl
  · exact turn_2 x w
  · exact turn_6 x w
  · exact turn_7 x w
  · exact turn_11 x w
  · exact turn_13 x w
  · exact turn_17 x w
  · exact turn_18 x w
  · exact turn_19 x w
  · exact turn_22 x w
  · exact turn_25 x w
theorem rturn_any (x : W) (n : Int) (hn : Cnt n) (w : World) :
    Calls Tryd.prog 36 #[.int .u32 (nv x), .int .i64 n] w fun e w' => e = .returned (.int .u32 (nv (ror x n.toNat))) ∧ ∃ n, w' = w.drewN n := by
  rcases hn with rfl | rfl | rfl | rfl | rfl | rfl | rfl | rfl | rfl | rfl
  · exact rturn_2 x w
  · exact rturn_6 x w
  · exact rturn_7 x w
  · exact rturn_11 x w
  · exact rturn_13 x w
  · exact rturn_17 x w
  · exact rturn_18 x w
  · exact rturn_19 x w
  · exact rturn_22 x w
  · exact rturn_25 x w

end Go.Proofs.YtpecclcihefbaaaDoor.Sha
