/- What LawWireReads, LawWireWrites, LawWireSpoilt lean on, part e of 15: the texts ShaT, ShaK, ShaB, ShaS, ShaD, DigP. -/
import Derived.Test.YtbefkoljcacpcaaGreatDoorTWa
import Derived.Test.YtbefkoljcacpcaaGreatDoorTWb
import Derived.Test.YtbefkoljcacpcaaGreatDoorTWd
import Derived.Test.YtbefkoljcacpcaaGreatDoorProg
import Derived.Deep.DeepCutAuto
import Derived.Deep.LoopGhost
import Derived.Deep.RegionLaw
import Derived.Laws.CopyOwn
import Derived.StillTailTactics
import Derived.Deep.AppendLies
import Derived.OwnWalk
import Derived.Lib.SlTrimSet
set_option linter.unusedVariables false
set_option linter.unusedSimpArgs false
namespace Go.Proofs.YtbefkoljcacpcaaGreatDoor.Sha
open Go.RowKit Go.Proofs.YtbefkoljcacpcaaGreatDoor.B
def Cnt (n : Int) : Prop := n = 2 ∨ n = 6 ∨ n = 7 ∨ n = 11 ∨ n = 13 ∨ n = 17 ∨ n = 18 ∨ n = 19 ∨ n = 22 ∨ n = 25
theorem ret_int {k : IntKind} {a b : Int} (h : a = b) : Ending.returned (.int k a) = .returned (.int k b) := by rw [h]
theorem ror_val (x : W) (n : Nat) : bits .or .u32 (nv x / 2 ^ n) ((nv x * 2 ^ (32 - n)) % 4294967296) = nv (ror x n) := by
  rw [nv_shr, nv_shl, nv_or]; rfl
theorem ror_val2 (x : W) (n : Nat) : bits .or .u32 ((nv x * 2 ^ (32 - n)) % 4294967296) (nv x / 2 ^ n) = nv (ror x n) := by
  rw [nv_shr, nv_shl, nv_or]
  unfold ror
  congr 1
  exact BitVec.or_comm _ _
theorem rot_2 (x : W) (w : World) :
    Calls Tryz.prog 78 #[.int .u32 (nv x), .int .i64 (-2)] w fun e w' => e = .returned (.int .u32 (nv (ror x 2))) ∧ w = w' := by
  have hr := Lib.hid (ror_val2 x 2)
  have hk : bits .and .u64 (IntKind.u64.wrap (-2)) 31 = 30 := by decide +kernel
  generalize ror x 2 = y at *
  go_enter Tryz.func78, Tryz.ntmps78
  go_wp2
  go_ret
  exact ⟨ret_int (by first | exact hr.out | simpa [IntKind.wrap_u32] using hr.out), rfl⟩
theorem turn_2 (x : W) (w : World) :
    Calls Tryz.prog 65 #[.int .u32 (nv x), .int .i64 2] w fun e w' => e = .returned (.int .u32 (nv (ror x 2))) ∧ w = w' := by
  have C := Lib.hid (rot_2 x w)
  go_enter Tryz.func65, Tryz.ntmps65
  go_wp2_with (go_at_call 78; refine (C.out).mono ?_; rintro e w' ⟨rfl, rfl⟩)
  go_ret
  exact ⟨rfl, rfl⟩
theorem rturn_2 (x : W) (w : World) :
    Calls Tryz.prog 54 #[.int .u32 (nv x), .int .i64 2] w fun e w' => e = .returned (.int .u32 (nv (ror x 2))) ∧ ∃ n, w' = w.drewN n := by
  have hr := Lib.hid (ror_val x 2)
  generalize ror x 2 = y at *
  go_enter Tryz.func54, Tryz.ntmps54
  go_wp2
  go_quiet (fail)
  go_wp2
  go_ret
  exact ⟨ret_int (by first | exact hr.out | simpa [IntKind.wrap_u32] using hr.out), ⟨_, rfl⟩⟩
theorem rot_6 (x : W) (w : World) :
    Calls Tryz.prog 78 #[.int .u32 (nv x), .int .i64 (-6)] w fun e w' => e = .returned (.int .u32 (nv (ror x 6))) ∧ w = w' := by
  have hr := Lib.hid (ror_val2 x 6)
  have hk : bits .and .u64 (IntKind.u64.wrap (-6)) 31 = 26 := by decide +kernel
  generalize ror x 6 = y at *
  go_enter Tryz.func78, Tryz.ntmps78
  go_wp2
  go_ret
  exact ⟨ret_int (by first | exact hr.out | simpa [IntKind.wrap_u32] using hr.out), rfl⟩
theorem turn_6 (x : W) (w : World) :
    Calls Tryz.prog 65 #[.int .u32 (nv x), .int .i64 6] w fun e w' => e = .returned (.int .u32 (nv (ror x 6))) ∧ w = w' := by
  have C := Lib.hid (rot_6 x w)
  go_enter Tryz.func65, Tryz.ntmps65
  go_wp2_with (go_at_call 78; refine (C.out).mono ?_; rintro e w' ⟨rfl, rfl⟩)
  go_ret
  exact ⟨rfl, rfl⟩
theorem rturn_6 (x : W) (w : World) :
    Calls Tryz.prog 54 #[.int .u32 (nv x), .int .i64 6] w fun e w' => e = .returned (.int .u32 (nv (ror x 6))) ∧ ∃ n, w' = w.drewN n := by
  have hr := Lib.hid (ror_val x 6)
  generalize ror x 6 = y at *
  go_enter Tryz.func54, Tryz.ntmps54
  go_wp2
  go_quiet (fail)
  go_wp2
  go_ret
  exact ⟨ret_int (by first | exact hr.out | simpa [IntKind.wrap_u32] using hr.out), ⟨_, rfl⟩⟩
theorem rot_7 (x : W) (w : World) :
    Calls Tryz.prog 78 #[.int .u32 (nv x), .int .i64 (-7)] w fun e w' => e = .returned (.int .u32 (nv (ror x 7))) ∧ w = w' := by
  have hr := Lib.hid (ror_val2 x 7)
  have hk : bits .and .u64 (IntKind.u64.wrap (-7)) 31 = 25 := by decide +kernel
  generalize ror x 7 = y at *
  go_enter Tryz.func78, Tryz.ntmps78
  go_wp2
  go_ret
  exact ⟨ret_int (by first | exact hr.out | simpa [IntKind.wrap_u32] using hr.out), rfl⟩
theorem turn_7 (x : W) (w : World) :
    Calls Tryz.prog 65 #[.int .u32 (nv x), .int .i64 7] w fun e w' => e = .returned (.int .u32 (nv (ror x 7))) ∧ w = w' := by
  have C := Lib.hid (rot_7 x w)
  go_enter Tryz.func65, Tryz.ntmps65
  go_wp2_with (go_at_call 78; refine (C.out).mono ?_; rintro e w' ⟨rfl, rfl⟩)
  go_ret
  exact ⟨rfl, rfl⟩
theorem rturn_7 (x : W) (w : World) :
    Calls Tryz.prog 54 #[.int .u32 (nv x), .int .i64 7] w fun e w' => e = .returned (.int .u32 (nv (ror x 7))) ∧ ∃ n, w' = w.drewN n := by
  have hr := Lib.hid (ror_val x 7)
  generalize ror x 7 = y at *
  go_enter Tryz.func54, Tryz.ntmps54
  go_wp2
  go_quiet (fail)
  go_wp2
  go_ret
  exact ⟨ret_int (by first | exact hr.out | simpa [IntKind.wrap_u32] using hr.out), ⟨_, rfl⟩⟩
theorem rot_11 (x : W) (w : World) :
    Calls Tryz.prog 78 #[.int .u32 (nv x), .int .i64 (-11)] w fun e w' => e = .returned (.int .u32 (nv (ror x 11))) ∧ w = w' := by
  have hr := Lib.hid (ror_val2 x 11)
  have hk : bits .and .u64 (IntKind.u64.wrap (-11)) 31 = 21 := by decide +kernel
  generalize ror x 11 = y at *
  go_enter Tryz.func78, Tryz.ntmps78
  go_wp2
  go_ret
  exact ⟨ret_int (by first | exact hr.out | simpa [IntKind.wrap_u32] using hr.out), rfl⟩
theorem turn_11 (x : W) (w : World) :
    Calls Tryz.prog 65 #[.int .u32 (nv x), .int .i64 11] w fun e w' => e = .returned (.int .u32 (nv (ror x 11))) ∧ w = w' := by
  have C := Lib.hid (rot_11 x w)
  go_enter Tryz.func65, Tryz.ntmps65
  go_wp2_with (go_at_call 78; refine (C.out).mono ?_; rintro e w' ⟨rfl, rfl⟩)
  go_ret
  exact ⟨rfl, rfl⟩
theorem rturn_11 (x : W) (w : World) :
    Calls Tryz.prog 54 #[.int .u32 (nv x), .int .i64 11] w fun e w' => e = .returned (.int .u32 (nv (ror x 11))) ∧ ∃ n, w' = w.drewN n := by
  have hr := Lib.hid (ror_val x 11)
  generalize ror x 11 = y at *
  go_enter Tryz.func54, Tryz.ntmps54
  go_wp2
  go_quiet (fail)
  go_wp2
  go_ret
  exact ⟨ret_int (by first | exact hr.out | simpa [IntKind.wrap_u32] using hr.out), ⟨_, rfl⟩⟩
theorem rot_13 (x : W) (w : World) :
    Calls Tryz.prog 78 #[.int .u32 (nv x), .int .i64 (-13)] w fun e w' => e = .returned (.int .u32 (nv (ror x 13))) ∧ w = w' := by
  have hr := Lib.hid (ror_val2 x 13)
  have hk : bits .and .u64 (IntKind.u64.wrap (-13)) 31 = 19 := by decide +kernel
  generalize ror x 13 = y at *
  go_enter Tryz.func78, Tryz.ntmps78
  go_wp2
  go_ret
  exact ⟨ret_int (by first | exact hr.out | simpa [IntKind.wrap_u32] using hr.out), rfl⟩
theorem turn_13 (x : W) (w : World) :
    Calls Tryz.prog 65 #[.int .u32 (nv x), .int .i64 13] w fun e w' => e = .returned (.int .u32 (nv (ror x 13))) ∧ w = w' := by
  have C := Lib.hid (rot_13 x w)
  go_enter Tryz.func65, Tryz.ntmps65
  go_wp2_with (go_at_call 78; refine (C.out).mono ?_; rintro e w' ⟨rfl, rfl⟩)
  go_ret
  exact ⟨rfl, rfl⟩
theorem rturn_13 (x : W) (w : World) :
    Calls Tryz.prog 54 #[.int .u32 (nv x), .int .i64 13] w fun e w' => e = .returned (.int .u32 (nv (ror x 13))) ∧ ∃ n, w' = w.drewN n := by
  have hr := Lib.hid (ror_val x 13)
  generalize ror x 13 = y at *
  go_enter Tryz.func54, Tryz.ntmps54
  go_wp2
  go_quiet (fail)
  go_wp2
  go_ret
  exact ⟨ret_int (by first | exact hr.out | simpa [IntKind.wrap_u32] using hr.out), ⟨_, rfl⟩⟩
theorem rot_17 (x : W) (w : World) :
    Calls Tryz.prog 78 #[.int .u32 (nv x), .int .i64 (-17)] w fun e w' => e = .returned (.int .u32 (nv (ror x 17))) ∧ w = w' := by
  have hr := Lib.hid (ror_val2 x 17)
  have hk : bits .and .u64 (IntKind.u64.wrap (-17)) 31 = 15 := by decide +kernel
  generalize ror x 17 = y at *
  go_enter Tryz.func78, Tryz.ntmps78
  go_wp2
  go_ret
  exact ⟨ret_int (by first | exact hr.out | simpa [IntKind.wrap_u32] using hr.out), rfl⟩
theorem turn_17 (x : W) (w : World) :
    Calls Tryz.prog 65 #[.int .u32 (nv x), .int .i64 17] w fun e w' => e = .returned (.int .u32 (nv (ror x 17))) ∧ w = w' := by
  have C := Lib.hid (rot_17 x w)
  go_enter Tryz.func65, Tryz.ntmps65
  go_wp2_with (go_at_call 78; refine (C.out).mono ?_; rintro e w' ⟨rfl, rfl⟩)
  go_ret
  exact ⟨rfl, rfl⟩
theorem rturn_17 (x : W) (w : World) :
    Calls Tryz.prog 54 #[.int .u32 (nv x), .int .i64 17] w fun e w' => e = .returned (.int .u32 (nv (ror x 17))) ∧ ∃ n, w' = w.drewN n := by
  have hr := Lib.hid (ror_val x 17)
  generalize ror x 17 = y at *
  go_enter Tryz.func54, Tryz.ntmps54
  go_wp2
  go_quiet (fail)
  go_wp2
  go_ret
  exact ⟨ret_int (by first | exact hr.out | simpa [IntKind.wrap_u32] using hr.out), ⟨_, rfl⟩⟩
theorem rot_18 (x : W) (w : World) :
    Calls Tryz.prog 78 #[.int .u32 (nv x), .int .i64 (-18)] w fun e w' => e = .returned (.int .u32 (nv (ror x 18))) ∧ w = w' := by
  have hr := Lib.hid (ror_val2 x 18)
  have hk : bits .and .u64 (IntKind.u64.wrap (-18)) 31 = 14 := by decide +kernel
  generalize ror x 18 = y at *
  go_enter Tryz.func78, Tryz.ntmps78
  go_wp2
  go_ret
  exact ⟨ret_int (by first | exact hr.out | simpa [IntKind.wrap_u32] using hr.out), rfl⟩
theorem turn_18 (x : W) (w : World) :
    Calls Tryz.prog 65 #[.int .u32 (nv x), .int .i64 18] w fun e w' => e = .returned (.int .u32 (nv (ror x 18))) ∧ w = w' := by
  have C := Lib.hid (rot_18 x w)
  go_enter Tryz.func65, Tryz.ntmps65
  go_wp2_with (go_at_call 78; refine (C.out).mono ?_; rintro e w' ⟨rfl, rfl⟩)
  go_ret
  exact ⟨rfl, rfl⟩
theorem rturn_18 (x : W) (w : World) :
    Calls Tryz.prog 54 #[.int .u32 (nv x), .int .i64 18] w fun e w' => e = .returned (.int .u32 (nv (ror x 18))) ∧ ∃ n, w' = w.drewN n := by
  have hr := Lib.hid (ror_val x 18)
  generalize ror x 18 = y at *
  go_enter Tryz.func54, Tryz.ntmps54
  go_wp2
  go_quiet (fail)
  go_wp2
  go_ret
  exact ⟨ret_int (by first | exact hr.out | simpa [IntKind.wrap_u32] using hr.out), ⟨_, rfl⟩⟩
theorem rot_19 (x : W) (w : World) :
    Calls Tryz.prog 78 #[.int .u32 (nv x), .int .i64 (-19)] w fun e w' => e = .returned (.int .u32 (nv (ror x 19))) ∧ w = w' := by
  have hr := Lib.hid (ror_val2 x 19)
  have hk : bits .and .u64 (IntKind.u64.wrap (-19)) 31 = 13 := by decide +kernel
  generalize ror x 19 = y at *
  go_enter Tryz.func78, Tryz.ntmps78
  go_wp2
  go_ret
  exact ⟨ret_int (by first | exact hr.out | simpa [IntKind.wrap_u32] using hr.out), rfl⟩
theorem turn_19 (x : W) (w : World) :
    Calls Tryz.prog 65 #[.int .u32 (nv x), .int .i64 19] w fun e w' => e = .returned (.int .u32 (nv (ror x 19))) ∧ w = w' := by
  have C := Lib.hid (rot_19 x w)
  go_enter Tryz.func65, Tryz.ntmps65
  go_wp2_with (go_at_call 78; refine (C.out).mono ?_; rintro e w' ⟨rfl, rfl⟩)
  go_ret
  exact ⟨rfl, rfl⟩
theorem rturn_19 (x : W) (w : World) :
    Calls Tryz.prog 54 #[.int .u32 (nv x), .int .i64 19] w fun e w' => e = .returned (.int .u32 (nv (ror x 19))) ∧ ∃ n, w' = w.drewN n := by
  have hr := Lib.hid (ror_val x 19)
  generalize ror x 19 = y at *
  go_enter Tryz.func54, Tryz.ntmps54
  go_wp2
  go_quiet (fail)
  go_wp2
  go_ret
  exact ⟨ret_int (by first | exact hr.out | simpa [IntKind.wrap_u32] using hr.out), ⟨_, rfl⟩⟩
theorem rot_22 (x : W) (w : World) :
    Calls Tryz.prog 78 #[.int .u32 (nv x), .int .i64 (-22)] w fun e w' => e = .returned (.int .u32 (nv (ror x 22))) ∧ w = w' := by
  have hr := Lib.hid (ror_val2 x 22)
  have hk : bits .and .u64 (IntKind.u64.wrap (-22)) 31 = 10 := by decide +kernel
  generalize ror x 22 = y at *
  go_enter Tryz.func78, Tryz.ntmps78
  go_wp2
  go_ret
  exact ⟨ret_int (by first | exact hr.out | simpa [IntKind.wrap_u32] using hr.out), rfl⟩
theorem turn_22 (x : W) (w : World) :
    Calls Tryz.prog 65 #[.int .u32 (nv x), .int .i64 22] w fun e w' => e = .returned (.int .u32 (nv (ror x 22))) ∧ w = w' := by
  have C := Lib.hid (rot_22 x w)
  go_enter Tryz.func65, Tryz.ntmps65
  go_wp2_with (go_at_call 78; refine (C.out).mono ?_; rintro e w' ⟨rfl, rfl⟩)
  go_ret
  exact ⟨rfl, rfl⟩
theorem rturn_22 (x : W) (w : World) :
    Calls Tryz.prog 54 #[.int .u32 (nv x), .int .i64 22] w fun e w' => e = .returned (.int .u32 (nv (ror x 22))) ∧ ∃ n, w' = w.drewN n := by
  have hr := Lib.hid (ror_val x 22)
  generalize ror x 22 = y at *
  go_enter Tryz.func54, Tryz.ntmps54
  go_wp2
  go_quiet (fail)
  go_wp2
  go_ret
  exact ⟨ret_int (by first | exact hr.out | simpa [IntKind.wrap_u32] using hr.out), ⟨_, rfl⟩⟩
theorem rot_25 (x : W) (w : World) :
    Calls Tryz.prog 78 #[.int .u32 (nv x), .int .i64 (-25)] w fun e w' => e = .returned (.int .u32 (nv (ror x 25))) ∧ w = w' := by
  have hr := Lib.hid (ror_val2 x 25)
  have hk : bits .and .u64 (IntKind.u64.wrap (-25)) 31 = 7 := by decide +kernel
  generalize ror x 25 = y at *
  go_enter Tryz.func78, Tryz.ntmps78
  go_wp2
  go_ret
  exact ⟨ret_int (by first | exact hr.out | simpa [IntKind.wrap_u32] using hr.out), rfl⟩
theorem turn_25 (x : W) (w : World) :
    Calls Tryz.prog 65 #[.int .u32 (nv x), .int .i64 25] w fun e w' => e = .returned (.int .u32 (nv (ror x 25))) ∧ w = w' := by
  have C := Lib.hid (rot_25 x w)
  go_enter Tryz.func65, Tryz.ntmps65
  go_wp2_with (go_at_call 78; refine (C.out).mono ?_; rintro e w' ⟨rfl, rfl⟩)
  go_ret
  exact ⟨rfl, rfl⟩
theorem rturn_25 (x : W) (w : World) :
    Calls Tryz.prog 54 #[.int .u32 (nv x), .int .i64 25] w fun e w' => e = .returned (.int .u32 (nv (ror x 25))) ∧ ∃ n, w' = w.drewN n := by
  have hr := Lib.hid (ror_val x 25)
  generalize ror x 25 = y at *
  go_enter Tryz.func54, Tryz.ntmps54
  go_wp2
  go_quiet (fail)
  go_wp2
  go_ret
  exact ⟨ret_int (by first | exact hr.out | simpa [IntKind.wrap_u32] using hr.out), ⟨_, rfl⟩⟩
theorem turn_any (x : W) (n : Int) (hn : Cnt n) (w : World) :
    Calls Tryz.prog 65 #[.int .u32 (nv x), .int .i64 n] w fun e w' => e = .returned (.int .u32 (nv (ror x n.toNat))) ∧ w = w' := by
  rcases hn with rfl | rfl | rfl | rfl | rfl | rfl | rfl | rfl | rfl | rfl
  · exact turn_2 x w
  · exact turn_6 x w
  · exact turn_7 x w
  · exact turn_11 x w
  · exact turn_13 x w
  · exact turn_17 x w
  · exact turn_18 x w
  · exact turn_19 x w
  · exact turn_22 x w
  · exact turn_25 x w
theorem rturn_any (x : W) (n : Int) (hn : Cnt n) (w : World) :
    Calls Tryz.prog 54 #[.int .u32 (nv x), .int .i64 n] w fun e w' => e = .returned (.int .u32 (nv (ror x n.toNat))) ∧ ∃ n, w' = w.drewN n := by
  rcases hn with rfl | rfl | rfl | rfl | rfl | rfl | rfl | rfl | rfl | rfl
  · exact rturn_2 x w
  · exact rturn_6 x w
  · exact rturn_7 x w
  · exact rturn_11 x w
  · exact rturn_13 x w
  · exact rturn_17 x w
  · exact rturn_18 x w
  · exact rturn_19 x w
  · exact rturn_22 x w
  · exact rturn_25 x w
end Go.Proofs.YtbefkoljcacpcaaGreatDoor.Sha
set_option linter.unusedVariables false
set_option linter.unusedSimpArgs false
namespace Go.Proofs.YtbefkoljcacpcaaGreatDoor.Sha
open Go.RowKit Go.Proofs.YtbefkoljcacpcaaGreatDoor.B
def K : List W := [1116352408#32, 1899447441#32, 3049323471#32, 3921009573#32, 961987163#32, 1508970993#32, 2453635748#32, 2870763221#32, 3624381080#32, 310598401#32, 607225278#32, 1426881987#32, 1925078388#32, 2162078206#32, 2614888103#32, 3248222580#32, 3835390401#32, 4022224774#32, 264347078#32, 604807628#32, 770255983#32, 1249150122#32, 1555081692#32, 1996064986#32, 2554220882#32, 2821834349#32, 2952996808#32, 3210313671#32, 3336571891#32, 3584528711#32, 113926993#32, 338241895#32, 666307205#32, 773529912#32, 1294757372#32, 1396182291#32, 1695183700#32, 1986661051#32, 2177026350#32, 2456956037#32, 2730485921#32, 2820302411#32, 3259730800#32, 3345764771#32, 3516065817#32, 3600352804#32, 4094571909#32, 275423344#32, 430227734#32, 506948616#32, 659060556#32, 883997877#32, 958139571#32, 1322822218#32, 1537002063#32, 1747873779#32, 1955562222#32, 2024104815#32, 2227730452#32, 2361852424#32, 2428436474#32, 2756734187#32, 3204031479#32, 3329325298#32]
def H0 : List W := [1779033703#32, 3144134277#32, 1013904242#32, 2773480762#32, 1359893119#32, 2600822924#32, 528734635#32, 1541459225#32]
theorem kidx (W : World) : ∀ t, t < 64 → (Instr.index 137 (.agg #[Value.int .u32 1116352408, Value.int .u32 1899447441, Value.int .u32 3049323471, Value.int .u32 3921009573, Value.int .u32 961987163, Value.int .u32 1508970993, Value.int .u32 2453635748, Value.int .u32 2870763221, Value.int .u32 3624381080, Value.int .u32 310598401, Value.int .u32 607225278, Value.int .u32 1426881987, Value.int .u32 1925078388, Value.int .u32 2162078206, Value.int .u32 2614888103, Value.int .u32 3248222580, Value.int .u32 3835390401, Value.int .u32 4022224774, Value.int .u32 264347078, Value.int .u32 604807628, Value.int .u32 770255983, Value.int .u32 1249150122, Value.int .u32 1555081692, Value.int .u32 1996064986, Value.int .u32 2554220882, Value.int .u32 2821834349, Value.int .u32 2952996808, Value.int .u32 3210313671, Value.int .u32 3336571891, Value.int .u32 3584528711, Value.int .u32 113926993, Value.int .u32 338241895, Value.int .u32 666307205, Value.int .u32 773529912, Value.int .u32 1294757372, Value.int .u32 1396182291, Value.int .u32 1695183700, Value.int .u32 1986661051, Value.int .u32 2177026350, Value.int .u32 2456956037, Value.int .u32 2730485921, Value.int .u32 2820302411, Value.int .u32 3259730800, Value.int .u32 3345764771, Value.int .u32 3516065817, Value.int .u32 3600352804, Value.int .u32 4094571909, Value.int .u32 275423344, Value.int .u32 430227734, Value.int .u32 506948616, Value.int .u32 659060556, Value.int .u32 883997877, Value.int .u32 958139571, Value.int .u32 1322822218, Value.int .u32 1537002063, Value.int .u32 1747873779, Value.int .u32 1955562222, Value.int .u32 2024104815, Value.int .u32 2227730452, Value.int .u32 2361852424, Value.int .u32 2428436474, Value.int .u32 2756734187, Value.int .u32 3204031479, Value.int .u32 3329325298]) (.int .i64 (t : Nat))).run Tryz.prog W = .ok (.int .u32 (nv (K.getD t 0))) W
  | 0, _ => by kernel_rfl
  | 1, _ => by kernel_rfl
  | 2, _ => by kernel_rfl
  | 3, _ => by kernel_rfl
  | 4, _ => by kernel_rfl
  | 5, _ => by kernel_rfl
  | 6, _ => by kernel_rfl
  | 7, _ => by kernel_rfl
  | 8, _ => by kernel_rfl
  | 9, _ => by kernel_rfl
  | 10, _ => by kernel_rfl
  | 11, _ => by kernel_rfl
  | 12, _ => by kernel_rfl
  | 13, _ => by kernel_rfl
  | 14, _ => by kernel_rfl
  | 15, _ => by kernel_rfl
  | 16, _ => by kernel_rfl
  | 17, _ => by kernel_rfl
  | 18, _ => by kernel_rfl
  | 19, _ => by kernel_rfl
  | 20, _ => by kernel_rfl
  | 21, _ => by kernel_rfl
  | 22, _ => by kernel_rfl
  | 23, _ => by kernel_rfl
  | 24, _ => by kernel_rfl
  | 25, _ => by kernel_rfl
  | 26, _ => by kernel_rfl
  | 27, _ => by kernel_rfl
  | 28, _ => by kernel_rfl
  | 29, _ => by kernel_rfl
  | 30, _ => by kernel_rfl
  | 31, _ => by kernel_rfl
  | 32, _ => by kernel_rfl
  | 33, _ => by kernel_rfl
  | 34, _ => by kernel_rfl
  | 35, _ => by kernel_rfl
  | 36, _ => by kernel_rfl
  | 37, _ => by kernel_rfl
  | 38, _ => by kernel_rfl
  | 39, _ => by kernel_rfl
  | 40, _ => by kernel_rfl
  | 41, _ => by kernel_rfl
  | 42, _ => by kernel_rfl
  | 43, _ => by kernel_rfl
  | 44, _ => by kernel_rfl
  | 45, _ => by kernel_rfl
  | 46, _ => by kernel_rfl
  | 47, _ => by kernel_rfl
  | 48, _ => by kernel_rfl
  | 49, _ => by kernel_rfl
  | 50, _ => by kernel_rfl
  | 51, _ => by kernel_rfl
  | 52, _ => by kernel_rfl
  | 53, _ => by kernel_rfl
  | 54, _ => by kernel_rfl
  | 55, _ => by kernel_rfl
  | 56, _ => by kernel_rfl
  | 57, _ => by kernel_rfl
  | 58, _ => by kernel_rfl
  | 59, _ => by kernel_rfl
  | 60, _ => by kernel_rfl
  | 61, _ => by kernel_rfl
  | 62, _ => by kernel_rfl
  | 63, _ => by kernel_rfl
  | n + 64, h => absurd h (by omega)
set_option maxRecDepth 100000 in
set_option maxHeartbeats 8000000 in
theorem k_any (t : Nat) (ht : t < 64) (w : World) :
    Calls Tryz.prog 66 #[.int .i64 t] w fun e w' => e = .returned (.int .u32 (nv (K.getD t 0))) ∧ w = w' := by
  have hk := fun W => kidx W t ht
  generalize nv (K.getD t 0) = y at *
  go_enter Tryz.func66, Tryz.ntmps66
  go_wp2_with fail
  go_ret
  exact ⟨rfl, rfl⟩
end Go.Proofs.YtbefkoljcacpcaaGreatDoor.Sha
set_option linter.unusedVariables false
set_option linter.unusedSimpArgs false
namespace Go.Proofs.YtbefkoljcacpcaaGreatDoor.Sha
open Go.RowKit Go.Proofs.YtbefkoljcacpcaaGreatDoor.B
def uv (x : W) : Value := .int .u32 (nv x)
def ucells (l : List W) : Array Value := (l.map uv).toArray
theorem ucells_get (l : List W) (i : Nat) (h : i < l.length) : (ucells l)[i]? = some (.int .u32 (nv (l.getD i 0))) := by
  simp [ucells, uv, List.getD_eq_getElem?_getD, List.getElem?_eq_getElem h]
theorem ucells_set (l : List W) (i : Nat) (x : W) : (ucells l).setIfInBounds i (.int .u32 (nv x)) = ucells (l.set i x) := by
  simp only [ucells, List.setIfInBounds_toArray, List.map_set]; rfl
theorem nv_shl8 (a : W) : nv a * 256 % 4294967296 = nv (a <<< 8) := nv_shl a 8
theorem nv_shr3 (a : W) : nv a / (8 : Int) = nv (a >>> 3) := nv_shr a 3
theorem nv_shr10 (a : W) : nv a / (1024 : Int) = nv (a >>> 10) := nv_shr a 10
theorem byte_mod (c : UInt8) : (c.toNat : Int) % 4294967296 = (c.toNat : Int) := by have := c.toNat_lt; omega
def sofar (full : List W) (t : Nat) : List W := full.take t ++ List.replicate (64 - t) 0
theorem sofar_length (full : List W) (t : Nat) (h : full.length = 64) (ht : t ≤ 64) : (sofar full t).length = 64 := by simp [sofar, h]; omega
theorem sofar_at (full : List W) (t j : Nat) (h : full.length = 64) (ht : t ≤ 64) (hj : j < t) : (sofar full t).getD j 0 = full.getD j 0 := by
  simp only [sofar, List.getD_eq_getElem?_getD]
  rw [List.getElem?_append_left (by simp; omega), List.getElem?_take, if_pos hj]
theorem sofar_zero (full : List W) (t j : Nat) (h : full.length = 64) (ht : t ≤ 64) (hj : t ≤ j) : (sofar full t).getD j 0 = 0 := by
  simp only [sofar, List.getD_eq_getElem?_getD]
  rw [List.getElem?_append_right (by simp; omega), List.getElem?_replicate]
  split <;> rfl
theorem sofar_succ (full : List W) (t : Nat) (h : full.length = 64) (ht : t < 64) : (sofar full t).set t (full.getD t 0) = sofar full (t + 1) := by
  apply List.ext_getElem?
  intro j
  have hl1 := sofar_length full t h (by omega)
  have hl2 := sofar_length full (t + 1) h (by omega)
  rw [List.getElem?_set]
  by_cases hj : j < 64
  · by_cases e : t = j
    · subst e
      rw [if_pos rfl, if_pos (by omega)]
      have := sofar_at full (t + 1) t h (by omega) (by omega)
      rw [List.getD_eq_getElem?_getD, List.getElem?_eq_getElem (by omega)] at this
      rw [List.getElem?_eq_getElem (by omega)]
      simpa using this.symm
    · rw [if_neg e, List.getElem?_eq_getElem (by omega), List.getElem?_eq_getElem (by omega)]
      congr 1
      rcases Nat.lt_or_ge j t with hlt | hge
      · have a := sofar_at full t j h (by omega) hlt
        have b := sofar_at full (t + 1) j h (by omega) (by omega)
        rw [List.getD_eq_getElem?_getD, List.getElem?_eq_getElem (by omega)] at a b
        simp only [Option.getD_some] at a b
        rw [a, b]
      · have a := sofar_zero full t j h (by omega) hge
        have b := sofar_zero full (t + 1) j h (by omega) (by omega)
        rw [List.getD_eq_getElem?_getD, List.getElem?_eq_getElem (by omega)] at a b
        simp only [Option.getD_some] at a b
        rw [a, b]
  · rw [if_neg (by omega), List.getElem?_eq_none (by omega), List.getElem?_eq_none (by omega)]
def part (b : List UInt8) (t : Nat) : Nat → W
  | 0 => 0
  | i + 1 => (part b t i <<< 8) ||| BitVec.ofNat 32 (b.getD (4 * t + i) 0).toNat
theorem part_four (b : List UInt8) (t : Nat) : part b t 4 = word b t := by
  unfold part part part part part word
  simp only [Nat.add_zero]
  rw [show (0 : W) <<< 8 ||| BitVec.ofNat 32 (b.getD (4 * t) 0).toNat = BitVec.ofNat 32 (b.getD (4 * t) 0).toNat from by simp]
theorem sched_prefix (m : List W) : ∀ n k, n ≤ k → ∃ r, sched m k = sched m n ++ r
  | n, 0, h => by obtain rfl : n = 0 := by omega
                  exact ⟨[], by simp⟩
  | n, k + 1, h => by
    by_cases e : n = k + 1
    · subst e; exact ⟨[], by simp⟩
    · obtain ⟨r, hr⟩ := sched_prefix m n k (by omega)
      exact ⟨r ++ [nextW (sched m k)], by rw [sched, hr]; simp⟩
theorem sched_at (m : List W) (n k j : Nat) (h : n ≤ k) (hj : j < m.length + n) : (sched m k).getD j 0 = (sched m n).getD j 0 := by
  obtain ⟨r, hr⟩ := sched_prefix m n k h
  have := sched_length m n
  rw [hr, List.getD_eq_getElem?_getD, List.getElem?_append_left (by omega), ← List.getD_eq_getElem?_getD]
theorem sched_next (m : List W) (t : Nat) (hm : m.length = 16) (h0 : 16 ≤ t) (h1 : t < 64) :
    (sched m 48).getD t 0 = (sched m 48).getD (t - 16) 0 + s0 ((sched m 48).getD (t - 15) 0) + (sched m 48).getD (t - 7) 0 + s1 ((sched m 48).getD (t - 2) 0) := by
  have hl := sched_length m (t - 16)
  have e := fun j (hj : j < t) => sched_at m (t - 16) 48 j (by omega) (by omega)
  rw [e (t - 16) (by omega), e (t - 15) (by omega), e (t - 7) (by omega), e (t - 2) (by omega), sched_at m (t - 16 + 1) 48 t (by omega) (by omega), sched, List.getD_eq_getElem?_getD, List.getElem?_append_right (by omega)]
  rw [show t - (sched m (t - 16)).length = 0 from by omega]
  simp only [List.getElem?_cons_zero, Option.getD_some, nextW, hl]
  rw [show m.length + (t - 16) = t from by omega]
theorem words_length (b : List UInt8) : (words b).length = 16 := by simp [words]
theorem full_word (b : List UInt8) (t : Nat) (h : t < 16) : (sched (words b) 48).getD t 0 = word b t := by
  rw [sched_at (words b) 0 48 t (by omega) (by rw [words_length]; omega)]
  simp [sched, words, List.getD_eq_getElem?_getD, List.getElem?_range h]
theorem nv_add4 (a b c d : W) : (nv a + nv b + nv c + nv d) % 4294967296 = nv (a + b + c + d) := by
  rw [← nv_add, ← nv_add, ← nv_add]; omega
theorem sched_val (x16 x15 x7 x2 : W) : (nv x16 + bits .xor .u32 (bits .xor .u32 (nv (ror x15 7)) (nv (ror x15 18))) (nv x15 / 8) + nv x7 + bits .xor .u32 (bits .xor .u32 (nv (ror x2 17)) (nv (ror x2 19))) (nv x2 / 1024)) % 4294967296 = nv (x16 + s0 x15 + x7 + s1 x2) := by
  rw [nv_shr3, nv_shr10, nv_xor, nv_xor, nv_xor, nv_xor, nv_add4]; rfl
def Arr (w : World) (b : Nat) (l : List W) : Prop := w.heap[b]? = some (.cells (ucells l) 137 (0, 0))
theorem Arr.cell {w : World} {b : Nat} {l : List W} (h : Arr w b l) (i : Nat) (hi : i < l.length) : w.cell? ⟨b, i, none⟩ = some (.int .u32 (nv (l.getD i 0))) := by
  rw [cell_of h, ucells_get l i hi]
theorem Arr.set {w : World} {b : Nat} {l : List W} (h : Arr w b l) (i : Nat) (x : W) : Arr (w.setCell ⟨b, i, none⟩ (.int .u32 (nv x))) b (l.set i x) := by
  unfold Arr
  rw [heap_set_some h, ucells_set]
def St (w : World) (hb : Nat) (l : List W) : Prop := w.heap[hb]? = some (.cells (ucells l) 99 (0, 0))
theorem st_cells {w : World} {hb : Nat} {t : TypeId} {x0 x1 x2 x3 x4 x5 x6 x7 : W} (h : w.heap[hb]? = some (.cells (ucells [x0, x1, x2, x3, x4, x5, x6, x7]) t (0, 0))) :
    w.cell? ⟨hb, 0, none⟩ = some (.int .u32 (nv x0)) ∧ w.cell? ⟨hb, 1, none⟩ = some (.int .u32 (nv x1)) ∧ w.cell? ⟨hb, 2, none⟩ = some (.int .u32 (nv x2)) ∧ w.cell? ⟨hb, 3, none⟩ = some (.int .u32 (nv x3)) ∧
    w.cell? ⟨hb, 4, none⟩ = some (.int .u32 (nv x4)) ∧ w.cell? ⟨hb, 5, none⟩ = some (.int .u32 (nv x5)) ∧ w.cell? ⟨hb, 6, none⟩ = some (.int .u32 (nv x6)) ∧ w.cell? ⟨hb, 7, none⟩ = some (.int .u32 (nv x7)) := by
  refine ⟨?_, ?_, ?_, ?_, ?_, ?_, ?_, ?_⟩ <;> rw [cell_of h] <;> rfl
def Run (w0 : World) (vb : Nat) (w : World) (m v : List W) : Prop := Arr w w0.heap.size m ∧ St w vb v ∧ Below w0.heap.size w0 w ∧ w0.heap.size < vb
theorem run_start {w0 w : World} {m : List W} (h : Arr w w0.heap.size m ∧ Below w0.heap.size w0 w) (v : List W) : Run w0 w.heap.size (w.alloc (.cells (ucells v) 99)) m v :=
  ⟨(heap_alloc_lt _ _ _ (heap_lt h.1)).trans h.1, heap_alloc_at _ _, h.2.alloc h.2.size _, heap_lt h.1⟩
theorem eight {l : List W} (h : l.length = 8) : ∃ y0 y1 y2 y3 y4 y5 y6 y7, l = [y0, y1, y2, y3, y4, y5, y6, y7] := by
  match l, h with
  | [a, b, c, d, e, f, g, i], _ => exact ⟨a, b, c, d, e, f, g, i, rfl⟩
theorem rounds_length (ks ws h : List W) (hh : h.length = 8) : ∀ k, (rounds ks ws h k).length = 8
  | 0 => hh
  | k + 1 => rfl
theorem round_next (ks ws h : List W) (k : Nat) {y0 y1 y2 y3 y4 y5 y6 y7 : W} (hv : rounds ks ws h k = [y0, y1, y2, y3, y4, y5, y6, y7]) :
    rounds ks ws h (k + 1) = [y7 + S1 y4 + ch y4 y5 y6 + ks.getD k 0 + ws.getD k 0 + (S0 y0 + maj y0 y1 y2), y0, y1, y2, y3 + (y7 + S1 y4 + ch y4 y5 y6 + ks.getD k 0 + ws.getD k 0), y4, y5, y6] := by
  rw [rounds, hv]; rfl
theorem k_same (t : Nat) (ht : t < 64) (w : World) :
    Calls Tryz.prog 66 #[.int .i64 t] w fun e w' => e = .returned (.int .u32 (nv (K.getD t 0))) ∧ w' = w :=
  (k_any t ht w).mono fun _ _ h => ⟨h.1, h.2.symm⟩
theorem nv_not (x : W) : bits .xor .u32 IntKind.u32.max (nv x) = nv (~~~x) := by
  rw [show IntKind.u32.max = nv (BitVec.allOnes 32) from rfl, nv_xor, BitVec.allOnes_xor]
theorem one_val (y4 y5 y6 y7 kk wk : W) : IntKind.u32.wrap (IntKind.u32.wrap (IntKind.u32.wrap (IntKind.u32.wrap (nv y7 + bits .xor .u32 (bits .xor .u32 (nv (ror y4 6)) (nv (ror y4 11))) (nv (ror y4 25))) + bits .xor .u32 (bits .and .u32 (nv y4) (nv y5)) (bits .and .u32 (bits .xor .u32 IntKind.u32.max (nv y4)) (nv y6))) + nv kk) + nv wk) = nv (y7 + S1 y4 + ch y4 y5 y6 + kk + wk) := by
  rw [nv_not, nv_and, nv_and, nv_xor, nv_xor, nv_xor, nv_addw, nv_addw, nv_addw, nv_addw]; rfl
theorem two_val (y0 y1 y2 : W) : IntKind.u32.wrap (bits .xor .u32 (bits .xor .u32 (nv (ror y0 2)) (nv (ror y0 13))) (nv (ror y0 22)) + bits .xor .u32 (bits .xor .u32 (bits .and .u32 (nv y0) (nv y1)) (bits .and .u32 (nv y0) (nv y2))) (bits .and .u32 (nv y1) (nv y2))) = nv (S0 y0 + maj y0 y1 y2) := by
  rw [nv_and, nv_and, nv_and, nv_xor, nv_xor, nv_xor, nv_xor, nv_addw]; rfl
theorem copy_src {w : World} {vb : Nat} {y0 y1 y2 y3 y4 y5 y6 y7 : W} (h : St w vb [y0, y1, y2, y3, y4, y5, y6, y7]) :
    ∀ j v, ([uv y0, uv y1, uv y2, uv y3, uv y4, uv y5, uv y6] : List Value)[j]? = some v → w.cell? ((⟨vb, 0, none⟩ : Addr).add j) = some v := by
  intro j v hj
  rw [add0, cell_of h]
  match j, hj with
  | 0, hj | 1, hj | 2, hj | 3, hj | 4, hj | 5, hj | 6, hj => exact hj
theorem run_copied {w0 w w4 : World} {vb : Nat} {m : List W} {y0 y1 y2 y3 y4 y5 y6 y7 : W} (n : Nat) (h : Run w0 vb w m [y0, y1, y2, y3, y4, y5, y6, y7])
    (h1 : Hid (w4.heap[vb]? = some (.cells (splice [uv y0, uv y1, uv y2, uv y3, uv y4, uv y5, uv y6, uv y7] 1 [uv y0, uv y1, uv y2, uv y3, uv y4, uv y5, uv y6]).toArray 99 (0, 0))))
    (h2 : Below vb w w4) : Run w0 vb w4 m [y0, y0, y1, y2, y3, y4, y5, y6] := by
  obtain ⟨a, b, c, d⟩ := h
  refine ⟨(h2.block _ d).trans a, h1, ⟨h2.os.trans c.os, h2.tape.trans c.tape, h2.output.trans c.output, Nat.le_trans c.size h2.size, fun k hk => (h2.block k (by omega)).trans (c.block k hk)⟩, d⟩
theorem run_two {w0 w : World} {vb : Nat} {m : List W} {y0 y1 y2 y3 y4 y5 y6 y7 p q : W} {A B : Int} (h : Run w0 vb w m [y0, y1, y2, y3, y4, y5, y6, y7]) (hA : A = nv p) (hB : B = nv q) :
    Run w0 vb ((w.setCell ⟨vb, 0, none⟩ (.int .u32 A)).setCell ⟨vb, 4, none⟩ (.int .u32 B)) m [p, y1, y2, y3, q, y5, y6, y7] := by
  subst hA; subst hB
  obtain ⟨a, b, c, d⟩ := h
  refine ⟨?_, ?_, (c.setCell (Nat.le_of_lt d) _).setCell (Nat.le_of_lt d) _, d⟩
  · unfold Arr
    rw [heap_set_ne _ _ _ _ (Nat.ne_of_lt d), heap_set_ne _ _ _ _ (Nat.ne_of_lt d)]; exact a
  · unfold St
    rw [heap_set_some (heap_set_some b _ _), ucells_set, ucells_set]; rfl
def addTo (xs ys : List W) (j : Nat) : List W := (List.range 8).map fun i => if i < j then xs.getD i 0 + ys.getD i 0 else xs.getD i 0
theorem addTo_length (xs ys : List W) (j : Nat) : (addTo xs ys j).length = 8 := by simp [addTo]
theorem addTo_at (xs ys : List W) (j : Nat) (h : j < 8) : (addTo xs ys j).getD j 0 = xs.getD j 0 := by
  simp [addTo, List.getD_eq_getElem?_getD, List.getElem?_range h]
theorem addTo_set (xs ys : List W) (j : Nat) (h : j < 8) : (addTo xs ys j).set j (xs.getD j 0 + ys.getD j 0) = addTo xs ys (j + 1) := by
  apply List.ext_getElem?
  intro i
  rw [List.getElem?_set]
  by_cases e : j = i
  · subst e
    rw [if_pos rfl, if_pos (by rw [addTo_length]; exact h)]
    simp only [addTo, List.getElem?_map, List.getElem?_range h, Option.map_some, if_pos (Nat.lt_succ_self j)]
  · rw [if_neg e]
    by_cases hi : i < 8
    · simp only [addTo, List.getElem?_map, List.getElem?_range hi, Option.map_some]
      congr 1
      by_cases h1 : i < j
      · rw [if_pos h1, if_pos (by omega)]
      · rw [if_neg h1, if_neg (by omega)]
    · rw [List.getElem?_eq_none (by rw [addTo_length]; omega), List.getElem?_eq_none (by rw [addTo_length]; omega)]
theorem addTo_zero (x0 x1 x2 x3 x4 x5 x6 x7 : W) (ys : List W) : addTo [x0, x1, x2, x3, x4, x5, x6, x7] ys 0 = [x0, x1, x2, x3, x4, x5, x6, x7] := rfl
theorem addTo_end (ks xs ms ys : List W) (h : rounds ks (sched ms 48) xs 64 = ys) : addTo xs ys 8 = compress ks xs ms := by
  unfold addTo compress
  rw [h]
  apply List.map_congr_left
  intro i hi
  rw [if_pos (List.mem_range.1 hi)]
def Fin (w0 : World) (hb vb : Nat) (w : World) (xs ys : List W) (j : Nat) : Prop :=
  St w hb (addTo xs ys j) ∧ St w vb ys ∧ Tch (· = hb) w0 w ∧ hb < w0.heap.size ∧ w0.heap.size < vb
theorem fin_start {w0 w : World} {hb vb : Nat} {m : List W} {x0 x1 x2 x3 x4 x5 x6 x7 : W} {ys : List W} (hs : St w0 hb [x0, x1, x2, x3, x4, x5, x6, x7]) (h : Run w0 vb w m ys) :
    Fin w0 hb vb w [x0, x1, x2, x3, x4, x5, x6, x7] ys 0 := by
  obtain ⟨a, b, c, d⟩ := h
  exact ⟨by rw [addTo_zero]; exact (c.block hb (heap_lt hs)).trans hs, b, Tch.of_below c fun k h1 h2 => absurd h2 (by omega), heap_lt hs, d⟩
theorem Arr.cell' {w : World} {b : Nat} {l : List W} (h : St w b l) (i : Nat) (hi : i < l.length) : w.cell? ⟨b, i, none⟩ = some (.int .u32 (nv (l.getD i 0))) := by
  rw [cell_of h, ucells_get l i hi]
theorem fin_next {w0 w : World} {hb vb j : Nat} {xs ys : List W} {A : Int} (h : Fin w0 hb vb w xs ys j) (hj : j < 8) (hA : A = nv (xs.getD j 0 + ys.getD j 0)) (n : Nat) :
    Fin w0 hb vb ((w.setCell ⟨hb, j, none⟩ (.int .u32 A)).drewN n) xs ys (j + 1) := by
  subst hA
  obtain ⟨a, b, c, d, e⟩ := h
  refine ⟨?_, ?_, (c.setCell _ (fun _ => rfl) _).drewN n, d, e⟩
  · show (w.setCell ⟨hb, j, none⟩ _).heap[hb]? = _
    rw [heap_set_some a, ucells_set, addTo_set _ _ _ hj]
  · show (w.setCell ⟨hb, j, none⟩ _).heap[vb]? = _
    rw [heap_set_ne _ _ _ _ (show vb ≠ hb from by omega)]; exact b
theorem fin_end {w0 w : World} {hb vb : Nat} {ks xs ys ms : List W} (h : Fin w0 hb vb w xs ys 8) (he : rounds ks (sched ms 48) xs 64 = ys) :
    St w hb (compress ks xs ms) ∧ Tch (· = hb) w0 w := ⟨addTo_end ks xs ms ys he ▸ h.1, h.2.2.1⟩
theorem turn_same (x : W) (n : Int) (hn : Cnt n) (w : World) :
    Calls Tryz.prog 65 #[.int .u32 (nv x), .int .i64 n] w fun e w' => e = .returned (.int .u32 (nv (ror x n.toNat))) ∧ w' = w :=
  (turn_any x n hn w).mono fun _ _ h => ⟨h.1, h.2.symm⟩
theorem getD_setW (l : List W) (i : Nat) (x : W) (h : i < l.length) : (l.set i x).getD i 0 = x := by
  simp [List.getD_eq_getElem?_getD, h]
theorem sofar_set0 (full : List W) (t : Nat) (h : full.length = 64) (ht : t < 64) : (sofar full t).set t 0 = sofar full t := by
  have hl := sofar_length full t h (by omega)
  apply List.ext_getElem?
  intro j
  rw [List.getElem?_set]
  by_cases e : t = j
  · subst e
    rw [if_pos rfl, if_pos (by omega)]
    have := sofar_zero full t t h (by omega) (by omega)
    rw [List.getD_eq_getElem?_getD, List.getElem?_eq_getElem (by omega)] at this
    rw [List.getElem?_eq_getElem (by omega)]
    simpa using this.symm
  · rw [if_neg e]
theorem str_idx {P : Program} {t : TypeId} (ht : P.underlying t = some .string) (s : ByteArray) (k : Nat) (hk : k < s.size) (w : World) :
    (Instr.index t (.string s) (.int .i64 (k : Int))).run P w = .ok (.int .u8 ((s.data.toList.getD k 0).toNat : Int)) w := by
  rw [run_index_string w t s .i64 k ht, dif_pos ⟨by omega, by omega⟩]
  have e : s.data.toList.getD k 0 = s[k]'hk := by
    rw [List.getD_eq_getElem?_getD, Array.getElem?_toList, Array.getElem?_eq_getElem hk]; rfl
  rw [e]; rfl
def Making (w0 w : World) (l : List W) : Prop := Arr w w0.heap.size l ∧ Below w0.heap.size w0 w
def zeros64 : List W := List.replicate 64 0
theorem making_start (w : World) (full : List W) (hf : full.length = 64) : Making w (w.alloc (.cells (ucells zeros64) 137)) (sofar full 0) :=
  ⟨by show _ = _; rw [heap_alloc_at]; simp [sofar, zeros64], (Below.refl _ _).alloc (Nat.le_refl _) _⟩
theorem making_set {w0 w : World} {l : List W} (h : Making w0 w l) (i : Nat) (x : W) : Making w0 (w.setCell ⟨w0.heap.size, i, none⟩ (.int .u32 (nv x))) (l.set i x) :=
  ⟨h.1.set i x, h.2.setCell (Nat.le_refl _) _⟩
theorem making_drew {w0 w : World} {l : List W} (h : Making w0 w l) (n : Nat) : Making w0 (w.drewN n) l := ⟨h.1, ⟨h.2.os, h.2.tape, h.2.output, h.2.size, h.2.block⟩⟩
theorem making_val {w0 w : World} {l : List W} (h : Making w0 w l) (i : Nat) (x : W) (v : Int) (hv : v = nv x) (n : Nat) : Making w0 ((w.setCell ⟨w0.heap.size, i, none⟩ (.int .u32 v)).drewN n) (l.set i x) := by
  subst hv; exact making_drew (making_set h i x) n
theorem wrap_small {x : Int} (h : 0 ≤ x) (h' : x < 100) : IntKind.i64.wrap x = x := by
  rw [IntKind.wrap_i64]; omega
set_option maxRecDepth 100000 in
set_option maxHeartbeats 4000000 in
theorem block_any (hb : Nat) (x0 x1 x2 x3 x4 x5 x6 x7 : W) (b : ByteArray) (hbl : b.size = 64) (w : World) (hSt : St w hb [x0, x1, x2, x3, x4, x5, x6, x7]) :
    Calls Tryz.prog 43 #[.pointer (some ⟨hb, 0, none⟩), .string b] w fun e w' => e = .returned (.tuple #[]) ∧ St w' hb (compress K [x0, x1, x2, x3, x4, x5, x6, x7] (words b.data.toList)) ∧ Tch (· = hb) w w' := by
  have hz : ∀ W : World, (zeroValue 137).run Tryz.prog W = .ok (.agg (ucells zeros64)) W := fun _ => by kernel_rfl
  obtain ⟨full, hfull⟩ : ∃ full, full = sched (words b.data.toList) 48 := ⟨_, rfl⟩
  have hfl : full.length = 64 := by rw [hfull, sched_length, words_length]
  have hst := Lib.hid (making_start w full hfl)
  have hF := Lib.hid hfull
  have hfl := Lib.hid hfl
  have hbl := Lib.hid hbl
  have hSt := Lib.hid hSt
  clear hfull
  go_enter Tryz.func43, Tryz.ntmps43
  go_wp2_with fail
  go_loopg [16] 64 (fun g i wr => ∃ t : Nat, g = 64 - t ∧ t ≤ 64 ∧ i = .int .i64 t ∧ Making w wr (sofar full t))
  case atStart => exact ⟨0, rfl, by omega, rfl, hst.out⟩
  case round =>
    clear hst hz
    obtain ⟨t, hg, ht, rfl, hm⟩ := hrel
    subst hg
    by_cases htl : t < 64
    · by_cases h16 : t < 16
      · have hm := Lib.hid hm
        have hi16 : (t : Int) < 16 := by omega
        have hi64 : (t : Int) < 64 := by omega
        go_wp2_with fail
        go_loopg [21] 4 (fun g i wi => ∃ j : Nat, g = 4 - j ∧ j ≤ 4 ∧ i = .int .i64 j ∧ Making w wi ((sofar full t).set t (part b.data.toList t j)))
        case atStart => exact ⟨0, rfl, by omega, rfl, by
          have : (sofar full t).set t (part b.data.toList t 0) = sofar full t := sofar_set0 full t hfl.out htl
          rw [this]; exact hm.out⟩
        case round =>
          clear hm
          obtain ⟨j, hg, hj, rfl, hm⟩ := hrel
          subst hg
          have hsl := sofar_length full t hfl.out (by omega)
          by_cases hjl : j < 4
          · have hc := hm.1.cell t (by rw [List.length_set, hsl]; exact htl)
            have hfr := fr_of hm.1 t
            rw [getD_setW _ _ _ (by rw [hsl]; exact htl)] at hc
            have hix := str_idx (P := Tryz.prog) Tryz.underlying9 b (4 * t + j) (by have := hbl.out; omega)
            rw [show ((4 * t + j : Nat) : Int) = 4 * (t : Int) + (j : Int) from by omega] at hix
            have hjl4 : (j : Int) < 4 := by omega
            have hfin : ∀ v : Int, v = nv (part b.data.toList t (j + 1)) → Making w ((wr.setCell ⟨w.heap.size, t, none⟩ (.int .u32 v)).drewN 1) ((sofar full t).set t (part b.data.toList t (j + 1))) := fun v hv => by
              have := making_val hm t (part b.data.toList t (j + 1)) v hv 1
              rwa [List.set_set] at this
            have hfinH := Lib.hid hfin
            obtain ⟨pj, hpj⟩ : ∃ x, part b.data.toList t j = x := ⟨_, rfl⟩
            obtain ⟨c, hcc⟩ : ∃ x, b.data.toList.getD (4 * t + j) 0 = x := ⟨_, rfl⟩
            have hP := Lib.hid (show part b.data.toList t (j + 1) = (pj <<< 8) ||| BitVec.ofNat 32 c.toNat from by rw [part, hpj, hcc])
            rw [hpj] at hc
            rw [hcc] at hix
            clear hm hfin hsl hpj hcc
            go_wp2
            go_region
            go_wp2
            go_roundg (4 - (j + 1))
            case measure => omega
            case rel => exact ⟨j + 1, rfl, by omega, by go_num, hfinH.out _ (by rw [hP.out, byte_mod, ← nv_byte]; congr 1; exact nv_shl8 pj)⟩
          · have hj4 : j = 4 := by omega
            subst hj4
            have hm1 := Lib.hid (show Making w wr (sofar full (t + 1)) from by
              rw [part_four, ← full_word _ _ h16, ← hF.out, sofar_succ full t hfl.out htl] at hm; exact hm)
            clear hm hsl
            go_wp2
            go_roundg (64 - (t + 1))
            case measure => omega
            case rel => exact ⟨t + 1, rfl, by omega, by go_num, hm1.out⟩
      · have h16' : ¬ (t : Int) < 16 := by omega
        have hi64 : (t : Int) < 64 := by omega
        have hsl := sofar_length full t hfl.out (by omega)
        have hc16 := hm.1.cell (t - 16) (by omega)
        have hc15 := hm.1.cell (t - 15) (by omega)
        have hc7 := hm.1.cell (t - 7) (by omega)
        have hc2 := hm.1.cell (t - 2) (by omega)
        have hct := hm.1.cell t (by omega)
        have hfr := fr_of hm.1 t
        rw [sofar_at full t _ hfl.out (by omega) (by omega)] at hc16 hc15 hc7 hc2
        have hnext := sched_next (words b.data.toList) t (words_length _) (by omega) htl
        rw [← hF.out] at hnext
        have hm := Lib.hid hm
        have hnextH := Lib.hid hnext
        clear hsl hnext
        generalize full.getD (t - 16) 0 = x16 at *
        generalize full.getD (t - 15) 0 = x15 at *
        generalize full.getD (t - 7) 0 = x7 at *
        generalize full.getD (t - 2) 0 = x2 at *
        go_wp2_with fail
        go_quiet (fail)
        go_wp2_with fail
        have hw16 : IntKind.i64.wrap ((t : Int) - 16) = ((t - 16 : Nat) : Int) := by rw [show (t : Int) - 16 = ((t - 16 : Nat) : Int) from by omega]; exact wrap_small (by omega) (by omega)
        have hw7 : IntKind.i64.wrap ((t : Int) - 7) = ((t - 7 : Nat) : Int) := by rw [show (t : Int) - 7 = ((t - 7 : Nat) : Int) from by omega]; exact wrap_small (by omega) (by omega)
        have hb16 : (((t - 16 : Nat) : Int) < 64) = True := eq_true (by omega)
        have hb7 : (((t - 7 : Nat) : Int) < 64) = True := eq_true (by omega)
        have hbt : ((t : Int) < 64) = True := eq_true (by omega)
        refine wp_region_still_tail 29 (by kernel_rfl) (by kernel_rfl) ?_
        change wpStill _ _ (wr.drewN nq).drew _ _ _
        simp only [List.take_succ_cons, List.take_zero, List.drop_succ_cons, List.drop_zero]
        repeat (first | still_step | still_call ((turn_same _ _ (by unfold Cnt; omega) _)))
        refine wpStill_nil ?_
        change wpList _ _ _ _ _ (wr.drewN nq).drew
        go_wp2
        go_roundg (64 - (t + 1))
        case measure => omega
        case rel =>
          refine ⟨t + 1, rfl, by omega, by go_num, ?_⟩
          have := making_val (making_drew hm.out (nq + 1)) t (full.getD t 0) _ ((sched_val x16 x15 x7 x2).trans (congrArg nv hnextH.out.symm)) 0
          rwa [sofar_succ full t hfl.out htl] at this
    · have ht64 : t = 64 := by omega
      subst ht64
      have hf64 : sofar full 64 = full := by unfold sofar; rw [List.take_of_length_le (by rw [hfl.out]; omega)]; simp
      rw [hf64] at hm
      have hH := hm.2.block hb (heap_lt hSt.out)
      rw [hSt.out] at hH
      have hmH := Lib.hid hm
      clear hm hf64
      obtain ⟨hc0, hc1, hc2, hc3, hc4, hc5, hc6, hc7⟩ := st_cells hH
      clear hH
      go_wp2
      clear hc0 hc1 hc2 hc3 hc4 hc5 hc6 hc7
      have hst3 := Lib.hid (run_start hmH.out [x0, x1, x2, x3, x4, x5, x6, x7])
      generalize wr.heap.size = vb at hst3 ⊢
      go_loopg [80] 64 (fun g i W => ∃ k : Nat, g = 64 - k ∧ k ≤ 64 ∧ i = .int .i64 k ∧ Run w vb W full (rounds K full [x0, x1, x2, x3, x4, x5, x6, x7] k))
      case atStart => exact ⟨0, rfl, by omega, rfl, hst3.out⟩
      case round =>
        clear hst3 hmH
        obtain ⟨k, hg, hk, rfl, hr⟩ := hrel
        subst hg
        by_cases hkl : k < 64
        · obtain ⟨y0, y1, y2, y3, y4, y5, y6, y7, hv⟩ := eight (rounds_length K full [x0, x1, x2, x3, x4, x5, x6, x7] rfl k)
          have hnx := round_next K full [x0, x1, x2, x3, x4, x5, x6, x7] k hv
          rw [hv] at hr
          obtain ⟨hc0, hc1, hc2, hc3, hc4, hc5, hc6, hc7⟩ := st_cells hr.2.1
          have hcm := hr.1.cell k (by rw [hfl.out]; exact hkl)
          have hfr := fr_of hr.2.1
          have hKc := fun W => k_same k hkl W
          have hnxH := Lib.hid hnx
          have hrH := Lib.hid hr
          have hk64 : (k : Int) < 64 := by omega
          clear hv hnx hr
          generalize full.getD k 0 = wk at *
          generalize K.getD k 0 = kk at *
          go_wp2_with fail
          go_quiet (fail)
          go_wp2_with fail
          refine wp_region_still_lit (by kernel_rfl) (by kernel_rfl) ?_
          change wpStill _ _ (wr.drewN nq).drew _ _ _
          repeat (first | still_step | still_call ((turn_same _ _ (by unfold Cnt; omega) _)) | still_call (hKc _))
          refine wpStill_nil ?_
          go_wp2_with fail
          refine wp_region_still_lit (by kernel_rfl) (by kernel_rfl) ?_
          change wpStill _ _ (wr.drewN (nq + 1)).drew _ _ _
          repeat (first | still_step | still_call ((turn_same _ _ (by unfold Cnt; omega) _)))
          refine wpStill_nil ?_
          go_wp2_with fail
          rw [one_val, two_val]
          change Code.wp _ _ _ _ (wr.drewN (nq + 2))
          generalize y7 + S1 y4 + ch y4 y5 y6 + kk + wk = one at *
          generalize S0 y0 + maj y0 y1 y2 = two at *
          have hvb := hrH.out.2.1
          have hrun := Lib.hid (fun w4 h1 h2 => run_copied (w4 := w4) (nq + 2) hrH.out h1 h2)
          clear hc0 hc1 hc2 hc3 hc4 hc5 hc6 hc7 hcm hfr hKc
          go_cut [] (fun W => Run w vb W full [y0, y0, y1, y2, y3, y4, y5, y6])
          case first =>
            go_region_law ((refine step_copy_splice rfl (.tmp 140) (.tmp 141) 111 111 rfl 97 (by kernel_rfl) (by kernel_rfl) (some ⟨vb, 1, none⟩) (some ⟨vb, 0, none⟩) 7 7 7 8 rfl rfl vb 1 [uv y0, uv y1, uv y2, uv y3, uv y4, uv y5, uv y6, uv y7] 99 hvb [uv y0, uv y1, uv y2, uv y3, uv y4, uv y5, uv y6] rfl (fun _ => ⟨rfl, _, rfl, copy_src hvb⟩) (by simp) (by simp [uv, Value.oneCell']) vb wr ⟨rfl, rfl, rfl, Nat.le_refl _, fun _ _ => rfl⟩ (Nat.le_refl _) ?_; intro w4 hg4 hb4))
            all_goals (try go_wp2_with fail)
            all_goals go_meet
            all_goals exact hrun.out _ hg4 hb4
          case rest =>
            clear hrun hvb hrH
            obtain ⟨hc0, hc1, hc2, hc3, hc4, hc5, hc6, hc7⟩ := st_cells hcut.2.1
            have hfr := fr_of hcut.2.1
            have hnext := Lib.hid (fun A B hA hB => run_two hcut (p := one + two) (q := y3 + one) (A := A) (B := B) hA hB)
            clear hcut hc1 hc2 hc3 hc5 hc6 hc7
            go_wp2
            go_roundg (64 - (k + 1))
            case measure => omega
            case rel => exact ⟨k + 1, rfl, by omega, by go_num, by rw [hnxH.out]; exact hnext.out _ _ (nv_add _ _) (nv_add _ _)⟩
        · have hk64 : k = 64 := by omega
          subst hk64
          obtain ⟨y0, y1, y2, y3, y4, y5, y6, y7, hv⟩ := eight (rounds_length K full [x0, x1, x2, x3, x4, x5, x6, x7] rfl 64)
          rw [hv] at hr
          have hvH := Lib.hid hv
          have hst4 := Lib.hid (fin_start hSt.out hr)
          clear hr hv
          go_wp2_with fail
          go_loopg [153] 8 (fun g i W => ∃ j : Nat, g = 8 - j ∧ j ≤ 8 ∧ i = .int .i64 j ∧ Fin w hb vb W [x0, x1, x2, x3, x4, x5, x6, x7] [y0, y1, y2, y3, y4, y5, y6, y7] j)
          case atStart => exact ⟨0, rfl, by omega, rfl, hst4.out⟩
          case round =>
            clear hst4
            obtain ⟨j, hg, hj, rfl, hr⟩ := hrel
            subst hg
            by_cases hjl : j < 8
            · have hj8 : (j : Int) < 8 := by omega
              have hcx := Arr.cell' hr.1 j (by rw [addTo_length]; exact hjl)
              rw [addTo_at _ _ _ hjl] at hcx
              have hcy := Arr.cell' hr.2.1 j hjl
              have hfr := fr_of hr.1
              have hrH := Lib.hid (fun A hA n => fin_next (A := A) hr hjl hA n)
              clear hr
              generalize ([x0, x1, x2, x3, x4, x5, x6, x7] : List W).getD j 0 = xj at *
              generalize ([y0, y1, y2, y3, y4, y5, y6, y7] : List W).getD j 0 = yj at *
              go_wp2_with fail
              go_region
              go_wp2
              go_roundg (8 - (j + 1))
              case measure => omega
              case rel => exact ⟨j + 1, rfl, by omega, by go_num, hrH.out _ (nv_add _ _) _⟩
            · have hj8 : j = 8 := by omega
              subst hj8
              have hfin := Lib.hid (fin_end hr (by rw [← hF.out]; exact hvH.out))
              clear hr
              go_wp2
              all_goals go_end0
              exact ⟨rfl, hfin.out⟩
end Go.Proofs.YtbefkoljcacpcaaGreatDoor.Sha
set_option linter.unusedVariables false
set_option linter.unusedSimpArgs false
namespace Go.Proofs.YtbefkoljcacpcaaGreatDoor.Sha
open Go.RowKit Go.Proofs.YtbefkoljcacpcaaGreatDoor.B
def Mem (w0 w : World) (hs : List W) : Prop := hs.length = 8 ∧ St w w0.heap.size hs ∧ Tch (fun _ => False) w0 w
def Rest1 (s b : ByteArray) (hs : List W) : Prop := b.size ≤ s.size ∧ b.size % 64 = s.size % 64 ∧ ∀ tail, runs K hs (b.data.toList ++ tail) = runs K H0 (s.data.toList ++ tail)
def Rest2 (T : List W) (b : ByteArray) (hs : List W) : Prop := b.size % 64 = 0 ∧ runs K hs b.data.toList = T
theorem block_list (hb : Nat) (hs : List W) (hl : hs.length = 8) (b : ByteArray) (hbl : b.size = 64) (w : World) (hSt : St w hb hs) :
    Calls Tryz.prog 43 #[.pointer (some ⟨hb, 0, none⟩), .string b] w fun e w' => e = .returned (.tuple #[]) ∧ St w' hb (compress K hs (words b.data.toList)) ∧ Tch (· = hb) w w' := by
  obtain ⟨y0, y1, y2, y3, y4, y5, y6, y7, rfl⟩ := eight hl
  exact block_any hb _ _ _ _ _ _ _ _ b hbl w hSt
theorem mem_start (w : World) : Mem w (w.alloc (.cells (ucells H0) 99)) H0 := ⟨rfl, heap_alloc_at _ _, (Tch.refl _ _).alloc _⟩
theorem mem_next {w0 w w' : World} {hs hs' : List W} (h : Mem w0 w hs) (hl : hs'.length = 8) (h1 : St w' w0.heap.size hs') (h2 : Tch (· = w0.heap.size) w w') : Mem w0 w' hs' := by
  obtain ⟨_, _, c⟩ := h
  exact ⟨hl, h1, h2.os.trans c.os, h2.tape.trans c.tape, h2.output.trans c.output, Nat.le_trans c.size h2.size, fun k hk _ => (h2.block k (Nat.lt_of_lt_of_le hk c.size) (show ¬ k = _ from by omega)).trans (c.block k hk id)⟩
theorem ext_lo (b : ByteArray) (h : 64 ≤ b.size) : (b.extract 0 64).size = 64 := by rw [ByteArray.size_extract]; omega
theorem ext_hi (b : ByteArray) : (b.extract 64 b.size).size = b.size - 64 := by rw [ByteArray.size_extract]; omega
theorem ext_lo_list (b : ByteArray) : (b.extract 0 64).data.toList = b.data.toList.take 64 := by
  rw [ByteArray.data_extract, Array.toList_extract]; simp [List.extract]
theorem ext_hi_list (b : ByteArray) : (b.extract 64 b.size).data.toList = b.data.toList.drop 64 := by
  rw [ByteArray.data_extract, Array.toList_extract]
  simp only [List.extract]
  exact List.take_of_length_le (by rw [List.length_drop, Array.length_toList]; exact Nat.le_refl _)
theorem len_list (b : ByteArray) : b.data.toList.length = b.size := by rw [Array.length_toList]; rfl
theorem rest1_next {s b : ByteArray} {hs : List W} (h : Rest1 s b hs) (hb : 64 ≤ b.size) : Rest1 s (b.extract 64 b.size) (compress K hs (words (b.extract 0 64).data.toList)) := by
  obtain ⟨h1, h2, h3⟩ := h
  refine ⟨by rw [ext_hi]; omega, by rw [ext_hi]; omega, fun tail => ?_⟩
  rw [← h3 tail, runs_long K hs (b.data.toList ++ tail) (by rw [List.length_append, len_list]; omega), ext_lo_list, ext_hi_list,
    List.take_append_of_le_length (by rw [len_list]; exact hb), List.drop_append_of_le_length (by rw [len_list]; exact hb)]
theorem rest2_next {T : List W} {b : ByteArray} {hs : List W} (h : Rest2 T b hs) (hb : 64 ≤ b.size) : Rest2 T (b.extract 64 b.size) (compress K hs (words (b.extract 0 64).data.toList)) := by
  obtain ⟨h1, h2⟩ := h
  refine ⟨by rw [ext_hi]; omega, ?_⟩
  rw [← h2, runs_long K hs b.data.toList (by rw [len_list]; omega), ext_lo_list, ext_hi_list]
theorem repeat_zero : ∀ c, Lib.repeatL [0] c = List.replicate c 0
  | 0 => rfl
  | c + 1 => by rw [Lib.repeatL, repeat_zero c]; rfl
theorem mem_below {w0 w w' : World} {hs : List W} (h : Mem w0 w hs) (h2 : Below w.heap.size w w') : Mem w0 w' hs :=
  ⟨h.1, (h2.block _ (heap_lt h.2.1)).trans h.2.1, h.2.2.trans (Tch.of_new h2)⟩
theorem conv1 (W : World) (n : Int) (x : UInt8) (h : n = (x.toNat : Int)) :
    (convert 30 9 (.slice (some ⟨W.heap.size, 0, none⟩) 1 1)).run Tryz.prog (W.alloc (.cells #[.int .u8 n] 5)) = .ok (.string ⟨#[x]⟩) (W.alloc (.cells #[.int .u8 n] 5)) := by
  subst h
  refine run_convert_bytes_back _ 30 9 5 _ 1 [x] Tryz.underlying30 Tryz.underlying5 Tryz.underlying9 fun j hj => ?_
  obtain rfl : j = 0 := by simp at hj; exact hj
  rw [add0, cell_of (heap_alloc_at _ _)]; rfl
theorem mem_alloc {w0 w : World} {hs : List W} (h : Mem w0 w hs) (o : Obj) : Mem w0 (w.alloc o) hs :=
  ⟨h.1, (heap_alloc_lt _ _ _ (heap_lt h.2.1)).trans h.2.1, h.2.2.alloc o⟩
theorem rest2_start {s b q : ByteArray} {hs : List W} (h : Rest1 s b hs) (hb : b.size < 64) (hq : q.data.toList = b.data.toList ++ (128 :: List.replicate ((119 - b.size) % 64) 0 ++ (be8 (s.size * 8)).take 8)) :
    Rest2 (runs K H0 (s.data.toList ++ padding s.data.toList.length)) q hs := by
  obtain ⟨h1, h2, h3⟩ := h
  have e8 : (be8 (s.size * 8)).take 8 = be8 (s.size * 8) := List.take_of_length_le (by simp [be8])
  have hp : padding s.data.toList.length = 128 :: List.replicate ((119 - b.size) % 64) 0 ++ be8 (s.size * 8) := by
    rw [padding, len_list, ← h2, Nat.mod_eq_of_lt hb]
  rw [e8, ← hp] at hq
  refine ⟨?_, by rw [hq, h3]⟩
  rw [← len_list, hq, hp]
  simp [be8, len_list]
  omega
def Padded (b : ByteArray) (e : List UInt8) (j : Nat) (q : ByteArray) : Prop := q.data.toList = b.data.toList ++ (128 :: List.replicate ((119 - b.size) % 64) 0 ++ e.take j)
theorem pad_start (b z : ByteArray) (c : Nat) (hz : z.data.toList = List.replicate ((119 - b.size) % 64) 0) (e : List UInt8) : Padded b e 0 (b ++ { data := #[128] } ++ z) := by
  unfold Padded
  simp [ByteArray.data_append, hz]
theorem padded_next {b q : ByteArray} {n j : Nat} (h : Padded b (be8 n) j q) (hj : j < 8) : Padded b (be8 n) (j + 1) (q ++ ⟨#[UInt8.ofNat (n / 2 ^ (8 * (7 - j)))]⟩) := by
  unfold Padded at *
  have hl : (be8 n).length = 8 := by simp [be8]
  have : (be8 n).take (j + 1) = (be8 n).take j ++ [UInt8.ofNat (n / 2 ^ (8 * (7 - j)))] := by
    rw [List.take_add_one]
    congr 1
    simp [be8, List.getElem?_range hj]
  rw [ByteArray.data_append, Array.toList_append, h, this]
  simp
theorem padded_size {b q : ByteArray} {e : List UInt8} {j : Nat} (h : Padded b e j q) (hb : b.size < 64) (he : e.length = 8) : (q.size : Int) < 200 := by
  have := congrArg List.length h
  rw [len_list] at this
  simp [len_list, he] at this
  omega
theorem rest2_end {T : List W} {b : ByteArray} {hs : List W} (h : Rest2 T b hs) (hb : b.size = 0) : T = hs := by
  rw [← h.2, runs_short K hs _ (by rw [len_list]; omega)]
theorem idx8 (W : World) (y0 y1 y2 y3 y4 y5 y6 y7 : BitVec 32) : ∀ j, j < 8 → (Instr.index 99 (.agg #[.int .u32 (nv y0), .int .u32 (nv y1), .int .u32 (nv y2), .int .u32 (nv y3), .int .u32 (nv y4), .int .u32 (nv y5), .int .u32 (nv y6), .int .u32 (nv y7)]) (.int .i64 (j : Nat))).run Tryz.prog W = .ok (.int .u32 (nv (([y0, y1, y2, y3, y4, y5, y6, y7] : List (BitVec 32)).getD j 0))) W
  | 0, _ => by kernel_rfl
  | 1, _ => by kernel_rfl
  | 2, _ => by kernel_rfl
  | 3, _ => by kernel_rfl
  | 4, _ => by kernel_rfl
  | 5, _ => by kernel_rfl
  | 6, _ => by kernel_rfl
  | 7, _ => by kernel_rfl
  | n + 8, h => absurd h (by omega)
theorem flat_next {ys : List W} {j : Nat} (hl : ys.length = 8) (hj : j < 8) : (ys.take (j + 1)).flatMap ofWord = (ys.take j).flatMap ofWord ++ ofWord (ys.getD j 0) := by
  rw [List.take_add_one, List.flatMap_append, List.getD_eq_getElem?_getD, List.getElem?_eq_getElem (by omega)]
  simp
theorem flat_len : ∀ {ys : List W}, ys.length = 8 → (ys.flatMap ofWord).length = 8 * 4 := by
  intro ys h
  obtain ⟨y0, y1, y2, y3, y4, y5, y6, y7, rfl⟩ := eight h
  rfl
theorem byte_of (x : W) : ((UInt8.ofNat x.toNat).toNat : Int) = nv x % 256 := by
  rw [UInt8.toNat_ofNat']; unfold nv; omega
theorem word_cells (x : W) : ([.int .u8 (nv x / 16777216 % 256), .int .u8 (nv x / 65536 % 256), .int .u8 (nv x / 256 % 256), .int .u8 (nv x % 256)] : List Value) = bc (ofWord x) := by
  have h24 : nv x / (16777216 : Int) = nv (x >>> 24) := nv_shr x 24
  have h16 : nv x / (65536 : Int) = nv (x >>> 16) := nv_shr x 16
  have h8 : nv x / (256 : Int) = nv (x >>> 8) := nv_shr x 8
  rw [h24, h16, h8, ← byte_of, ← byte_of, ← byte_of, ← byte_of]; rfl
theorem sum_next {w wr w1 : World} {g cap j B : Nat} {v : Value} {yj : W} {ys : List W} (ho : wr.ownsRow B 5 1 v (j * 4) (bc ((ys.take j).flatMap ofWord)))
    (hn : (ys.take (j + 1)).flatMap ofWord = (ys.take j).flatMap ofWord ++ ofWord yj) (ht : Tch (fun _ => False) w wr) (hB : B ≤ wr.heap.size) (hw : w.heap.size ≤ B)
    (h1 : w1.ownsRow B 5 1 (.slice (some ⟨g, 0, none⟩) (j * 4 + 4) cap) (j * 4 + 4) (bc ((ys.take j).flatMap ofWord) ++ [.int .u8 (nv yj / 16777216 % 256), .int .u8 (nv yj / 65536 % 256), .int .u8 (nv yj / 256 % 256), .int .u8 (nv yj % 256)]))
    (h2 : (wr.alloc (.cells #[.int .u8 (nv yj / 16777216 % 256), .int .u8 (nv yj / 65536 % 256), .int .u8 (nv yj / 256 % 256), .int .u8 (nv yj % 256)] 5)).grownBy w1 v.ownBlock) :
    w1.ownsRow B 5 1 (.slice (some ⟨g, 0, none⟩) (j * 4 + 4) cap) ((j + 1) * 4) (bc ((ys.take (j + 1)).flatMap ofWord)) ∧ Tch (fun _ => False) w w1 ∧ B ≤ w1.heap.size := by
  rw [word_cells] at h1
  refine ⟨by rw [hn, bc_append, show (j + 1) * 4 = j * 4 + 4 from by omega]; exact h1, own_tch (ht.alloc _) (ho.alloc _) hw h2, ?_⟩
  have := h2.size
  simp at this
  omega
set_option maxRecDepth 100000 in
set_option maxHeartbeats 4000000 in
theorem Sum_any (s : ByteArray) (hsz : s.size ≤ 140737488351232) (w : World) :
    Calls Tryz.prog 22 #[.string s] w fun e w' => e = .returned (.string (sha K H0 s)) ∧ Tch (fun _ => False) w w' := by
  have hsz := Lib.hid hsz
  go_enter Tryz.func22, Tryz.ntmps22
  go_wp2_with fail
  go_loopg [4] s.size (fun g r wr => ∃ (b : ByteArray) (hs : List W), g = b.size ∧ r = .string b ∧ Mem w wr hs ∧ Rest1 s b hs)
  case atStart => exact ⟨s, H0, rfl, rfl, mem_start w, Nat.le_refl _, rfl, fun _ => rfl⟩
  case round =>
    obtain ⟨b, hs, rfl, rfl, hm, hr⟩ := hrel
    by_cases hb : 64 ≤ b.size
    · have hgo : ((64 : Int) ≤ (b.size : Int)) := by omega
      have hN := Lib.hid (fun w' h1 h2 => mem_next (w' := w') hm (compress_length K hs (words (b.extract 0 64).data.toList)) h1 h2)
      have hC := Lib.hid (block_list w.heap.size hs hm.1 (b.extract 0 64) (ext_lo b hb) wr hm.2.1)
      have hR := Lib.hid (rest1_next hr hb)
      have hsz := Lib.hid (ext_hi b)
      clear hm hr
      go_wp2_with (go_at_call 43; refine (hC.out).mono ?_; rintro e w' ⟨rfl, h1, h2⟩; have hm := Lib.hid (hN.out _ h1 h2); clear h1 h2)
      go_roundg (b.size - 64)
      case measure => omega
      case rel => exact ⟨b.extract 64 b.size, _, hsz.out.symm, rfl, hm.out, hR.out⟩
    · have hgo : ¬ ((64 : Int) ≤ (b.size : Int)) := by omega
      have hbs : b.size < 64 := by omega
      obtain ⟨z, hz⟩ : ∃ z : ByteArray, z = ⟨(Lib.repeatL [0] ((119 - b.size) % 64)).toArray⟩ := ⟨_, rfl⟩
      have hC := Lib.hid (Tryz.strings_Repeat ⟨#[0]⟩ ((119 - b.size) % 64) wr (by omega) (by show 1 * _ ≤ _; omega))
      rw [show (((119 - b.size) % 64 : Nat) : Int) = (119 - (b.size : Int)) % 64 from by omega, ← hz] at hC
      have hzl := Lib.hid (show z.data.toList = List.replicate ((119 - b.size) % 64) 0 from by rw [hz]; exact repeat_zero _)
      have hzs := Lib.hid (show z.size = (119 - b.size) % 64 from by rw [← len_list, hzl.out, List.length_replicate])
      have hz64 : (z.size : Int) < 64 := by have := hzs.out; omega
      have hmH := Lib.hid hm
      have hrH := Lib.hid hr
      have hbs' : (b.size : Int) < 64 := by omega
      clear hm hr hz
      go_wp2_with (go_at_call 44; refine (hC.out).mono ?_; rintro e w' ⟨rfl, hw'⟩; have hm := Lib.hid (mem_below hmH.out hw'); clear hw')
      have hq0 := Lib.hid (pad_start b z 0 hzl.out (be8 (s.size * 8)))
      clear hC hmH hzl
      generalize b ++ ({ data := #[128] } : ByteArray) ++ z = q0 at *
      go_loopg [5, 7] 8 (fun g l i W => ∃ (j : Nat) (q : ByteArray), g = 8 - j ∧ j ≤ 8 ∧ l = .string q ∧ i = .int .i64 (7 - (j : Int)) ∧ Padded b (be8 (s.size * 8)) j q ∧ Mem w W hs)
      case atStart => exact ⟨0, q0, rfl, by omega, rfl, rfl, hq0.out, hm.out⟩
      case round =>
        clear hq0 hm
        obtain ⟨j, q, hg, hj, rfl, rfl, hq, hm⟩ := hrel
        subst hg
        by_cases hjl : j < 8
        · have hqs : (q.size : Int) < 200 := padded_size hq hbs (by simp [be8])
          have hqH := Lib.hid hq
          have hmH := Lib.hid hm
          clear hq hm
          obtain rfl | rfl | rfl | rfl | rfl | rfl | rfl | rfl : j = 0 ∨ j = 1 ∨ j = 2 ∨ j = 3 ∨ j = 4 ∨ j = 5 ∨ j = 6 ∨ j = 7 := by omega
          · obtain ⟨x, hx⟩ : ∃ x, x = UInt8.ofNat (s.size * 8 / 2 ^ (8 * (7 - 0))) := ⟨_, rfl⟩
            have hcv := fun W : World => conv1 W ((s.size : Int) * 8 / 72057594037927936) x (by have := hsz.out; rw [hx, UInt8.toNat_ofNat']; omega)
            have hnx := Lib.hid (padded_next hqH.out (by decide : 0 < 8))
            rw [← hx] at hnx
            clear hx
            go_wp2_with fail
            go_roundg (8 - (0 + 1))
            case measure => omega
            case rel => exact ⟨0 + 1, _, rfl, by omega, rfl, by go_num, hnx.out, (mem_alloc hmH.out _)⟩
          · obtain ⟨x, hx⟩ : ∃ x, x = UInt8.ofNat (s.size * 8 / 2 ^ (8 * (7 - 1))) := ⟨_, rfl⟩
            have hcv := fun W : World => conv1 W ((s.size : Int) * 8 / 281474976710656) x (by have := hsz.out; rw [hx, UInt8.toNat_ofNat']; omega)
            have hnx := Lib.hid (padded_next hqH.out (by decide : 1 < 8))
            rw [← hx] at hnx
            clear hx
            go_wp2_with fail
            go_roundg (8 - (1 + 1))
            case measure => omega
            case rel => exact ⟨1 + 1, _, rfl, by omega, rfl, by go_num, hnx.out, (mem_alloc hmH.out _)⟩
          · obtain ⟨x, hx⟩ : ∃ x, x = UInt8.ofNat (s.size * 8 / 2 ^ (8 * (7 - 2))) := ⟨_, rfl⟩
            have hcv := fun W : World => conv1 W (((s.size : Int) * 8 / 1099511627776) % 256) x (by have := hsz.out; rw [hx, UInt8.toNat_ofNat']; omega)
            have hnx := Lib.hid (padded_next hqH.out (by decide : 2 < 8))
            rw [← hx] at hnx
            clear hx
            go_wp2_with fail
            go_roundg (8 - (2 + 1))
            case measure => omega
            case rel => exact ⟨2 + 1, _, rfl, by omega, rfl, by go_num, hnx.out, (mem_alloc hmH.out _)⟩
          · obtain ⟨x, hx⟩ : ∃ x, x = UInt8.ofNat (s.size * 8 / 2 ^ (8 * (7 - 3))) := ⟨_, rfl⟩
            have hcv := fun W : World => conv1 W (((s.size : Int) * 8 / 4294967296) % 256) x (by have := hsz.out; rw [hx, UInt8.toNat_ofNat']; omega)
            have hnx := Lib.hid (padded_next hqH.out (by decide : 3 < 8))
            rw [← hx] at hnx
            clear hx
            go_wp2_with fail
            go_roundg (8 - (3 + 1))
            case measure => omega
            case rel => exact ⟨3 + 1, _, rfl, by omega, rfl, by go_num, hnx.out, (mem_alloc hmH.out _)⟩
          · obtain ⟨x, hx⟩ : ∃ x, x = UInt8.ofNat (s.size * 8 / 2 ^ (8 * (7 - 4))) := ⟨_, rfl⟩
            have hcv := fun W : World => conv1 W (((s.size : Int) * 8 / 16777216) % 256) x (by have := hsz.out; rw [hx, UInt8.toNat_ofNat']; omega)
            have hnx := Lib.hid (padded_next hqH.out (by decide : 4 < 8))
            rw [← hx] at hnx
            clear hx
            go_wp2_with fail
            go_roundg (8 - (4 + 1))
            case measure => omega
            case rel => exact ⟨4 + 1, _, rfl, by omega, rfl, by go_num, hnx.out, (mem_alloc hmH.out _)⟩
          · obtain ⟨x, hx⟩ : ∃ x, x = UInt8.ofNat (s.size * 8 / 2 ^ (8 * (7 - 5))) := ⟨_, rfl⟩
            have hcv := fun W : World => conv1 W (((s.size : Int) * 8 / 65536) % 256) x (by have := hsz.out; rw [hx, UInt8.toNat_ofNat']; omega)
            have hnx := Lib.hid (padded_next hqH.out (by decide : 5 < 8))
            rw [← hx] at hnx
            clear hx
            go_wp2_with fail
            go_roundg (8 - (5 + 1))
            case measure => omega
            case rel => exact ⟨5 + 1, _, rfl, by omega, rfl, by go_num, hnx.out, (mem_alloc hmH.out _)⟩
          · obtain ⟨x, hx⟩ : ∃ x, x = UInt8.ofNat (s.size * 8 / 2 ^ (8 * (7 - 6))) := ⟨_, rfl⟩
            have hcv := fun W : World => conv1 W (((s.size : Int) * 8 / 256) % 256) x (by have := hsz.out; rw [hx, UInt8.toNat_ofNat']; omega)
            have hnx := Lib.hid (padded_next hqH.out (by decide : 6 < 8))
            rw [← hx] at hnx
            clear hx
            go_wp2_with fail
            go_roundg (8 - (6 + 1))
            case measure => omega
            case rel => exact ⟨6 + 1, _, rfl, by omega, rfl, by go_num, hnx.out, (mem_alloc hmH.out _)⟩
          · obtain ⟨x, hx⟩ : ∃ x, x = UInt8.ofNat (s.size * 8 / 2 ^ (8 * (7 - 7))) := ⟨_, rfl⟩
            have hcv := fun W : World => conv1 W ((s.size : Int) * 8 % 256) x (by have := hsz.out; rw [hx, UInt8.toNat_ofNat']; omega)
            have hnx := Lib.hid (padded_next hqH.out (by decide : 7 < 8))
            rw [← hx] at hnx
            clear hx
            go_wp2_with fail
            go_roundg (8 - (7 + 1))
            case measure => omega
            case rel => exact ⟨7 + 1, _, rfl, by omega, rfl, by go_num, hnx.out, (mem_alloc hmH.out _)⟩
        · have hj8 : j = 8 := by omega
          subst hj8
          have hr2 := Lib.hid (rest2_start hrH.out hbs hq)
          have hmH := Lib.hid hm
          clear hq hm hrH
          go_wp2_with fail
          clear hbs' hz64 hzs
          go_loopg [5] q.size (fun g l W => ∃ (b : ByteArray) (hs : List (BitVec 32)), g = b.size ∧ l = .string b ∧ Mem w W hs ∧ Rest2 (runs K H0 (s.data.toList ++ padding s.data.toList.length)) b hs)
          case atStart => exact ⟨q, hs, rfl, rfl, hmH.out, hr2.out⟩
          case round =>
            clear hr2 hmH
            obtain ⟨b, hs, rfl, rfl, hm, hr⟩ := hrel
            by_cases hb : 0 < b.size
            · have hb64 : 64 ≤ b.size := by have := hr.1; omega
              have hgo : ((64 : Int) ≤ (b.size : Int)) := by omega
              have hgo0 : ((0 : Int) < (b.size : Int)) := by omega
              have hN := Lib.hid (fun w' h1 h2 => mem_next (w' := w') hm (compress_length K hs (words (b.extract 0 64).data.toList)) h1 h2)
              have hC := Lib.hid (block_list w.heap.size hs hm.1 (b.extract 0 64) (ext_lo b hb64) wr hm.2.1)
              have hR := Lib.hid (rest2_next hr hb64)
              have hsz := Lib.hid (ext_hi b)
              clear hm hr
              go_wp2_with (go_at_call 43; refine (hC.out).mono ?_; rintro e w' ⟨rfl, h1, h2⟩; have hm := Lib.hid (hN.out _ h1 h2); clear h1 h2)
              go_roundg (b.size - 64)
              case measure => omega
              case rel => exact ⟨b.extract 64 b.size, _, hsz.out.symm, rfl, hm.out, hR.out⟩
            · have hgo0 : ¬ ((0 : Int) < (b.size : Int)) := by omega
              have hr : runs K H0 (s.data.toList ++ padding s.data.toList.length) = hs := rest2_end hr (by omega)
              have hrH := Lib.hid hr
              obtain ⟨y0, y1, y2, y3, y4, y5, y6, y7, rfl⟩ := eight hm.1
              obtain ⟨hc0, hc1, hc2, hc3, hc4, hc5, hc6, hc7⟩ := st_cells hm.2.1
              have hmH := Lib.hid hm.2.2
              clear hm hr
              have hix := fun (W : World) (j : Nat) (hj : j < 8) => idx8 W y0 y1 y2 y3 y4 y5 y6 y7 j hj
              have hout0 := Lib.hid (own_nil wr wr.heap.size)
              have hB := Lib.hid (hmH.out.size)
              obtain ⟨i8, hi8, hz8, hs8, hb8⟩ := info8
              go_wp2_with fail
              clear hc0 hc1 hc2 hc3 hc4 hc5 hc6 hc7
              obtain ⟨B, hBe⟩ : ∃ B, B = wr.heap.size := ⟨_, rfl⟩
              rw [← hBe] at hout0 hB
              have hBe := Lib.hid (Nat.le_of_eq hBe)
              obtain ⟨ys, hys⟩ : ∃ ys : List (BitVec 32), ys = [y0, y1, y2, y3, y4, y5, y6, y7] := ⟨_, rfl⟩
              rw [← hys] at hrH hix
              have hyl : ys.length = 8 := by rw [hys]; rfl
              have hyl := Lib.hid hyl
              clear hys
              go_loopg [8, 55] 8 (fun g v i W => ∃ j : Nat, g = 8 - j ∧ j ≤ 8 ∧ i = .int .i64 j ∧ W.ownsRow B 5 1 v (j * 4) (bc ((ys.take j).flatMap ofWord)) ∧ Tch (fun _ => False) w W ∧ B ≤ W.heap.size)
              case atStart => exact ⟨0, rfl, by omega, rfl, hout0.out, hmH.out, hBe.out⟩
              case round =>
                clear hout0 hmH hBe
                obtain ⟨j, hg, hj, rfl, ho, ht, hBs⟩ := hrel
                subst hg
                by_cases hjl : j < 8
                · have hj8 : (j : Int) < 8 := by omega
                  have hixj := fun W => hix W j hjl
                  have hnx := flat_next hyl.out hjl
                  have hj4 : j * 4 ≤ 32 := by omega
                  have ho := Lib.hid ho
                  have hnx := Lib.hid hnx
                  have ht := Lib.hid ht
                  have hBs := Lib.hid hBs
                  clear hix
                  generalize ys.getD j 0 = yj at *
                  have hfin := fun g cap w1 => sum_next (g := g) (cap := cap) (w1 := w1) (yj := yj) (B := B) (w := w) (wr := wr) ho.out hnx.out ht.out hBs.out hB.out
                  have hfin := Lib.hid hfin
                  clear hnx
                  go_wp2_with (at_builtin; refine wpList_append_lies _ (by rfl) _ _ _ (by rfl) B 5 i8 _ 1 1 Tryz.underlying30 hi8 hz8 hs8 hb8 rfl (by omega) u8 (j * 4) _ (by rfl) (ho.out.alloc _) ⟨wr.heap.size, 0, none⟩ 4 4 [.int .u8 (nv yj / 16777216 % 256), .int .u8 (nv yj / 65536 % 256), .int .u8 (nv yj / 256 % 256), .int .u8 (nv yj % 256)] (by rfl) (by rfl) (World.news_of_block (heap_alloc_at _ _)) (by simp [Value.oneCell']) (by omega) (by unfold maxLen; omega) (by omega) (by simp; have := hBs.out; omega) (wr.heap.size + 1) (by simp) ?_; intro g cap w1 hown1 hgrow hat hlt)
                  go_roundg (8 - (j + 1))
                  case measure => omega
                  case rel => exact ⟨j + 1, rfl, by omega, by go_num, hfin.out _ _ _ hown1 hgrow⟩
                · have hj8 : j = 8 := by omega
                  subst hj8
                  rw [List.take_of_length_le (by rw [hyl.out]; omega), show 8 * 4 = (ys.flatMap ofWord).length from (flat_len hyl.out).symm] at ho
                  have hcv := own_conv _ _ _ _ ho
                  have hres : sha K H0 s = ⟨(ys.flatMap ofWord).toArray⟩ := by rw [← hrH.out]; rfl
                  have hres := Lib.hid hres
                  have ht := Lib.hid ht
                  generalize (⟨(ys.flatMap ofWord).toArray⟩ : ByteArray) = out at hres hcv
                  clear ho hix
                  go_wp2_with fail
                  go_ret
                  exact ⟨by rw [hres.out]; rfl, ht.out⟩
end Go.Proofs.YtbefkoljcacpcaaGreatDoor.Sha
set_option linter.unusedVariables false
set_option linter.unusedSimpArgs false
namespace Go.Proofs.YtbefkoljcacpcaaGreatDoor.Sha
open Go.RowKit Go.Proofs.YtbefkoljcacpcaaGreatDoor.B
theorem undrew {w w' : World} {row : Option Nat} (h : w.drew.grownBy w' row) : w.grownBy w' row := ⟨h.os, h.tape, h.output, h.size, h.block⟩
end Go.Proofs.YtbefkoljcacpcaaGreatDoor.Sha
set_option linter.unusedVariables false
set_option linter.unusedSimpArgs false
namespace Go.Proofs.YtbefkoljcacpcaaGreatDoor.Dig
open Go Go.RowKit Go.Proofs.YtbefkoljcacpcaaGreatDoorW.PrintWords Go.Proofs.YtbefkoljcacpcaaGreatDoor.Sha
open Go.Proofs.YtbefkoljcacpcaaGreatDoor.Lin (bs bs_data bs_of bs_size size_list wrap_at)
def dv (c : UInt8) : Option Nat := if 48 ≤ c.toNat ∧ c.toNat ≤ 57 then some (c.toNat - 48) else if 97 ≤ c.toNat ∧ c.toNat ≤ 102 then some (c.toNat - 87) else none
theorem dv_lt {c : UInt8} {n : Nat} (h : dv c = some n) : n < 16 := by
  unfold dv at h
  split at h
  · injection h with h; omega
  · split at h
    · injection h with h; omega
    · cases h
def pair (a b : UInt8) : Option UInt8 := match dv a, dv b with
  | some x, some y => some (UInt8.ofNat (16 * x + y))
  | _, _ => none
def rawL : List UInt8 → Option (List UInt8)
  | [] => some []
  | [_] => none
  | a :: b :: l => match pair a b, rawL l with
    | some c, some r => some (c :: r)
    | _, _ => none
theorem rawL_len : ∀ (l : List UInt8) (r : List UInt8), rawL l = some r → l.length = 2 * r.length
  | [], r, h => by cases h; rfl
  | [_], r, h => by cases h
  | a :: b :: l, r, h => by
    unfold rawL at h
    split at h
    · rename_i c r' h1 h2
      cases h
      have := rawL_len l _ h2
      simp only [List.length_cons]
      omega
    · cases h
def allD (l : List UInt8) : Bool := l.all fun c => (dv c).isSome
theorem rawL_some {l : List UInt8} (h : allD l = true) (h2 : l.length % 2 = 0) : ∃ r, rawL l = some r := by
  match l, h, h2 with
  | [], _, _ => exact ⟨[], rfl⟩
  | [_], _, h2 => simp at h2
  | a :: b :: l, h, h2 =>
    unfold allD at h
    simp only [List.all_cons, Bool.and_eq_true] at h
    obtain ⟨ha, hb, hl⟩ := h
    obtain ⟨r, hr⟩ := rawL_some (l := l) hl (by simp only [List.length_cons] at h2; omega)
    obtain ⟨x, hx⟩ := Option.isSome_iff_exists.1 ha
    obtain ⟨y, hy⟩ := Option.isSome_iff_exists.1 hb
    exact ⟨_, by unfold rawL; unfold pair; rw [hx, hy, hr]⟩
theorem rawL_all : ∀ {l r : List UInt8}, rawL l = some r → allD l = true
  | [], _, _ => rfl
  | [_], _, h => by cases h
  | a :: b :: l, r, h => by
    unfold rawL at h
    split at h
    · rename_i c r' h1 h2
      have ih := rawL_all h2
      unfold pair at h1
      split at h1
      · rename_i x y hx hy
        unfold allD at ih ⊢
        rw [List.all_cons, List.all_cons, hx, hy, ih]
        rfl
      · cases h1
    · cases h
theorem rawL_even {l r : List UInt8} (h : rawL l = some r) : l.length % 2 = 0 := by have := rawL_len l r h; omega
theorem rawL_odd {l : List UInt8} (h : ¬ l.length % 2 = 0) : rawL l = none := by
  cases e : rawL l with
  | none => rfl
  | some r => exact absurd (rawL_even e) h
theorem rawL_notD {l : List UInt8} (h : allD l = false) : rawL l = none := by
  cases e : rawL l with
  | none => rfl
  | some r => rw [rawL_all e] at h; cases h
theorem digit_k (k : Nat) (a : Int) : PRight.tambourref03_digit.f (k + 1) a = PRight.tambourref03_digit.f 1 a := by
  unfold PRight.tambourref03_digit.f
  simp only [PRight.tambourref03_digit.j0]
def dvI (c : UInt8) : Int := match dv c with | some n => (n : Int) | none => -1
theorem dvI_some {c : UInt8} {n : Nat} (h : dv c = some n) : dvI c = n := by unfold dvI; rw [h]
theorem dvI_none {c : UInt8} (h : dv c = none) : dvI c = -1 := by unfold dvI; rw [h]
theorem digit_f (c : UInt8) (k : Nat) : PRight.tambourref03_digit.f (k + 1) (c.toNat : Int) = some (dvI c) := by
  have : ∀ n : Fin 256, PRight.tambourref03_digit.f 1 (n.val : Int) = some (dvI (UInt8.ofFin n)) := by decide +kernel
  rw [digit_k]
  exact this c.toFin
def nums (l : List UInt8) : List Int := l.map fun c => (c.toNat : Int)
theorem strOfNums_nums (l : List UInt8) : strOfNums (nums l) = bs l := by
  unfold strOfNums nums bs
  rw [List.map_map]
  congr 1
  congr 1
  conv => rhs; rw [← List.map_id l]
  apply List.map_congr_left
  intro c _
  simp
def outR (out : List UInt8) (o : Option (List UInt8)) : ByteArray × Int := match o with
  | some r => (bs (out ++ r), 0)
  | none => (⟨#[]⟩, 4)
def rawR (l : List UInt8) : ByteArray × Int := outR [] (rawL l)
theorem pair_some {a b : UInt8} {x y : Nat} (ha : dv a = some x) (hb : dv b = some y) : pair a b = some (UInt8.ofNat (16 * x + y)) := by unfold pair; rw [ha, hb]
theorem rawL_two (a b : UInt8) (l : List UInt8) : rawL (a :: b :: l) = (match pair a b, rawL l with
    | some c, some r => some (c :: r)
    | _, _ => none) := rfl
theorem rawL_bad {a b : UInt8} {l : List UInt8} (h : pair a b = none) : rawL (a :: b :: l) = none := by rw [rawL_two, h]
theorem rawL_good {a b c : UInt8} {l : List UInt8} (h : pair a b = some c) : rawL (a :: b :: l) = (rawL l).map (c :: ·) := by rw [rawL_two, h]; cases rawL l <;> rfl
theorem outR_step (out : List UInt8) (c : UInt8) (o : Option (List UInt8)) : outR (out ++ [c]) o = outR out (o.map (c :: ·)) := by
  cases o with
  | none => rfl
  | some r => simp [outR, List.append_assoc]
theorem byte_two {x y : Nat} (hx : x < 16) (hy : y < 16) : wrap64 (wrap64 ((x : Int) * 16) + (y : Int)) % 256 = (((UInt8.ofNat (16 * x + y)).toNat : Nat) : Int) := by
  have h1 : wrap64 ((x : Int) * 16) = (x : Int) * 16 := by unfold wrap64; omega
  have h2 : wrap64 ((x : Int) * 16 + (y : Int)) = (x : Int) * 16 + (y : Int) := by unfold wrap64; omega
  rw [h1, h2, UInt8.toNat_ofNat', Nat.mod_eq_of_lt (by omega)]
  omega
theorem drop_two {l : List UInt8} {i : Nat} (h : i + 1 < l.length) : l.drop i = l.getD i 0 :: l.getD (i + 1) 0 :: l.drop (i + 2) := by
  rw [List.drop_eq_getElem_cons (by omega), List.drop_eq_getElem_cons h, List.getD_eq_getElem?_getD, List.getD_eq_getElem?_getD, List.getElem?_eq_getElem h, List.getElem?_eq_getElem (by omega)]
  rfl
theorem raw_l0 (s : ByteArray) (hs : s.size ≤ 140737488351232) (n : Nat) : ∀ (k i : Nat) (out : List UInt8), i + 2 * n = s.size → out.length ≤ i → 2 * n + 3 ≤ k →
    PRight.tambourref03_Raw.l0 k s (nums out) i = some (outR out (rawL (s.data.toList.drop i))) := by
  induction n with
  | zero =>
    intro k i out hi ho hk
    obtain ⟨k, rfl⟩ : ∃ m, k = m + 1 := ⟨k - 1, by omega⟩
    simp only [PRight.tambourref03_Raw.l0]
    rw [if_neg (by omega), List.drop_of_length_le (by rw [size_list]; omega), strOfNums_nums]
    simp [rawL, outR]
  | succ n ih =>
    intro k i out hi ho hk
    obtain ⟨k, rfl⟩ : ∃ m, k = m + 3 := ⟨k - 3, by omega⟩
    have w1 : wrap64 ((i : Int) + 1) = ((i + 1 : Nat) : Int) := by rw [wrap_at (by omega) (by omega)]; omega
    have w2 : wrap64 ((i : Int) + 2) = ((i + 2 : Nat) : Int) := by unfold wrap64; omega
    have hd := drop_two (l := s.data.toList) (i := i) (by rw [size_list]; omega)
    simp only [PRight.tambourref03_Raw.l0]
    rw [if_pos (by omega), if_pos (by omega), Lin.bt_at s i (by omega), digit_f]
    rw [Option.bind_some]
    rw [w1, Lin.bt_at s (i + 1) (by omega), digit_f, hd]
    cases ha : dv (s.data.toList.getD i 0) with
    | none =>
      rw [dvI_none ha, if_pos (by omega)]
      simp only [PRight.tambourref03_Raw.j1, if_true]
      rw [rawL_bad (by unfold pair; rw [ha])]
      rfl
    | some x =>
      have hx := dv_lt ha
      rw [dvI_some ha, if_neg (by omega), if_pos (by omega), if_pos (by omega)]
      rw [Option.bind_some]
      cases hb : dv (s.data.toList.getD (i + 1) 0) with
      | none =>
        rw [dvI_none hb]
        simp only [PRight.tambourref03_Raw.j1]
        rw [if_pos (by decide)]
        rw [rawL_bad (by unfold pair; rw [ha, hb])]
        rfl
      | some y =>
        have hy := dv_lt hb
        rw [dvI_some hb]
        simp only [PRight.tambourref03_Raw.j1]
        rw [if_neg (by simp), if_pos (by omega), if_pos (by omega), Lin.bt_at s i (by omega), digit_f]
        rw [Option.bind_some]
        rw [w1, if_pos (by omega), if_pos (by omega), Lin.bt_at s (i + 1) (by omega), digit_f]
        rw [Option.bind_some]
        rw [dvI_some ha, dvI_some hb]
        rw [if_pos (by unfold nums; rw [List.length_map]; omega), w2]
        have e : nums out ++ [wrap64 (wrap64 ((x : Int) * 16) + (y : Int)) % 256] = nums (out ++ [UInt8.ofNat (16 * x + y)]) := by
          rw [byte_two hx hy]
          unfold nums
          rw [List.map_append]
          rfl
        rw [e, ih (k + 1) (i + 2) _ (by omega) (by rw [List.length_append, List.length_singleton]; omega) (by omega), outR_step, rawL_good (pair_some ha hb)]
theorem raw_f (s : ByteArray) (hs : s.size ≤ 140737488351232) : PRight.tambourref03_Raw.f (s.size + 3) s = some (rawR s.data.toList) := by
  have h0 := fun h1 h2 => raw_l0 s hs (s.size / 2) (s.size + 3) 0 [] h1 h2 (by omega)
  generalize s.size + 3 = k at *
  unfold PRight.tambourref03_Raw.f rawR
  by_cases h : s.size % 2 = 0
  · rw [if_pos (by omega)]
    exact h0 (by omega) (by simp)
  · rw [if_neg (by omega), rawL_odd (by rw [size_list]; exact h)]
    rfl
def rightL (l : List UInt8) : Bool := decide (l.length = 64) && (rawL l).isSome
theorem rawR_ok (l : List UInt8) : ((rawR l).2 == 0) = (rawL l).isSome := by
  unfold rawR
  cases rawL l <;> rfl
theorem right_f (s : ByteArray) (hs : s.size ≤ 140737488351232) : PRight.tambourref03_Right.f (s.size + 3) s = some (rightL s.data.toList) := by
  have h0 := raw_f s hs
  generalize s.size + 3 = k at *
  unfold PRight.tambourref03_Right.f
  rw [h0, Option.bind_some, rawR_ok]
  unfold rightL
  rw [size_list]
  by_cases h : s.size = 64
  · rw [if_pos (by omega), decide_eq_true h, Bool.true_and]
  · rw [if_neg (by omega), decide_eq_false h, Bool.false_and]
theorem rightRef (s : ByteArray) (w : World) (hs : s.size ≤ 140737488351232) : Calls Tryz.prog 56 #[.string s] w fun e w' => e = .returned (.bool (rightL s.data.toList)) ∧ Below w.heap.size w w' :=
  PRight.tambourref03_Right.calls (s.size + 3) s _ w (right_f s hs)
end Go.Proofs.YtbefkoljcacpcaaGreatDoor.Dig
