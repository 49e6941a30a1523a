/- errors.Is at two values of api.Errno, and the statements' Code at nil and at an Errno. -/
import Derived.Test.YtpecclcihefbaaaDoorErr
import Derived.Test.YtpecclcihefbaaaDoorBase
import Derived.Lib.IfaceEq
import Derived.Lib.Hide
import Derived.WalkSpells
import Derived.WalkLawsBesides
import Derived.Deep.DeepFit
set_option linter.unusedVariables false
set_option linter.unusedSimpArgs false
namespace Go.Proofs.YtpecclcihefbaaaDoor.Err
open Go Go.RowKit Go.Extern.Stop Go.Stop Go.Extern

theorem isTypeOf (v : Value) (w : World) : (Extern.ReflectliteType.typeOf #[.iface 53 v]).run Tryd.prog w = .ok (.iface 107 (.agg #[.pointer (some ⟨4, 53, none⟩)])) w := by kernel_rfl
theorem isComparable (w : World) : (callFunc 122 #[.agg #[.pointer (some ⟨4, 53, none⟩)]]).run Tryd.prog w = .ok (Next.value (.bool true)) w := by
  have h32 := @run_callFunc_extern Tryd.prog 122 _ (Extern.ReflectliteType.method fun t => do Extern.Rtype.noPackHeld "Comparable" t; pure (.bool (← typeInfo t).comparable)) Tryd.func122 (by kernel_rfl) (by kernel_rfl) (by kernel_rfl) (by kernel_rfl)
  exact (h32 _ w).trans (by kernel_rfl)
theorem isMethodComparable (v : Value) (w : World) : (Go.method 265 107 v "Comparable").run Tryd.prog w = .ok (122, v) w := by kernel_rfl
theorem isComp : (Tryd.prog.info? 53).map (·.comparable) = some true := by kernel_rfl

theorem is_same (a : Int) (w : World) :
    Calls Tryd.prog 38 #[.iface 53 (.int .i64 a), .iface 53 (.int .i64 a)] w fun e w' => e = .returned (.bool true) ∧ w' = w := by
  have h8 := @run_callFunc_extern Tryd.prog 58 _ Extern.ReflectliteType.typeOf Tryd.func58 (by kernel_rfl) (by kernel_rfl) (by kernel_rfl) (by kernel_rfl)
  have tT := isTypeOf
  have cT := isComparable
  have mR := isMethodComparable
  have heq := Go.Lib.run_eql_iface_int (P := Tryd.prog) w (k := .i64) (q := .i64) a a Tryd.underlying33 isComp Tryd.underlying53
  rw [beq_self_eq_true] at heq
  go_enter Tryd.func38, Tryd.ntmps38
  go_wp2
  refine wp_loop_rounds 1 ?_
  rw [rounds_succ]
  go_wp2
  go_ret
  exact ⟨rfl, rfl⟩

/-- The world in which errors.errorType holds error's handle. -/
def ErrT (w : World) : Prop := w.cell? ⟨0, 0, none⟩ = some (.iface 107 (.agg #[.pointer (some ⟨4, 33, none⟩)]))
theorem ErrT.below {w w' : World} (h : ErrT w) (hb : Below w.heap.size w w') : ErrT w' := (hb.cell (World.block_lt_of_cell? _ _ h)).trans h

theorem Code_nil (w : World) : Calls Tryd.prog 23 #[.nilIface] w fun e w' => e = .returned (.int .i64 0) ∧ w' = w := by
  go_enter Tryd.func23, Tryd.ntmps23
  go_wp2
  go_ret
  exact ⟨rfl, rfl⟩

theorem as_any (e : Int) (t : Addr) (old : Value) (w : World) (hg : ErrT w) (ht0 : w.cell? t = some old) (hf0 : w.frozen? t = false) :
    Calls Tryd.prog 37 #[.iface 53 (.int .i64 e), .iface 55 (.pointer (some t))] w fun ev w' => ev = .returned (.bool true) ∧ w'.cell? t = some (.int .i64 e) ∧ Below t.block w w' := by
  have htl := World.block_lt_of_cell? w _ ht0
  refine (as_hit e t old w hg ht0 hf0).mono ?_
  rintro ev w' ⟨rfl, rfl⟩
  refine ⟨rfl, ?_, ?_⟩
  · refine World.cell?_setCell_same _ t _ (u := old) ?_
    rw [World.cell?_alloc_lt _ _ t (by simp; omega), World.cell?_alloc_lt _ _ t (by simp; omega), World.cell?_alloc_lt _ _ t (by simp; omega), World.cell?_alloc_lt _ _ t htl]
    exact ht0
  · exact (((((Below.refl _ _).alloc (Nat.le_of_lt htl) _).alloc (by simp; omega) _).alloc (by simp; omega) _).alloc (by simp; omega) _).setCell (Nat.le_refl _) _

set_option maxHeartbeats 1000000 in
theorem Code_errno (e : Int) (w : World) (hg : ErrT w) : Calls Tryd.prog 23 #[.iface 53 (.int .i64 e)] w fun ev w' => ev = .returned (.int .i64 e) ∧ Below w.heap.size w w' := by
  have A := Lib.hid (as_any e ⟨w.heap.size, 0, none⟩ (.int .i64 0) (w.alloc (.cells #[.int .i64 0] 53)) (hg.below ((Below.refl _ _).alloc (Nat.le_refl _) _)) (by simp) (by simp))
  have I := Lib.hid (fun w' => is_same e w')
  clear hg
  go_enter Tryd.func23, Tryd.ntmps23
  go_wp2_with fail
  refine (A.out).mono ?_
  rintro ev w1 ⟨rfl, hc, hb⟩
  replace hb := Lib.hid hb
  clear A
  go_wp2_with fail
  refine (I.out _).mono ?_
  rintro ev w2 ⟨rfl, rfl⟩
  go_wp2_with fail
  go_ret
  exact ⟨rfl, ((Below.refl _ _).alloc (Nat.le_refl _) _).trans hb.out⟩

end Go.Proofs.YtpecclcihefbaaaDoor.Err
