/- errors.Is at two values of api.Errno, and the statements' Code at nil and at an Errno. -/
import Derived.Test.YtalkhiggapbfjaaDoorErr
import Derived.Test.YtalkhiggapbfjaaDoorBase
import Derived.Lib.IfaceEq
import Derived.Lib.Hide
import Derived.WalkSpells
import Derived.WalkLawsBesides
import Derived.Deep.DeepFit
set_option linter.unusedVariables false
set_option linter.unusedSimpArgs false
namespace Go.Proofs.YtalkhiggapbfjaaDoor.Err
open Go Go.RowKit Go.Extern.Stop Go.Stop Go.Extern

theorem isTypeOf (v : Value) (w : World) : (Extern.ReflectliteType.typeOf #[.iface 48 v]).run Tryd.prog w = .ok (.iface 113 (.agg #[.pointer (some ⟨1, 48, none⟩)])) w := by kernel_rfl
theorem isComparable (w : World) : (callFunc 102 #[.agg #[.pointer (some ⟨1, 48, none⟩)]]).run Tryd.prog w = .ok (Next.value (.bool true)) w := by
  have h32 := @run_callFunc_extern Tryd.prog 102 _ (Extern.ReflectliteType.method fun t => do Extern.Rtype.noPackHeld "Comparable" t; pure (.bool (← typeInfo t).comparable)) Tryd.func102 (by kernel_rfl) (by kernel_rfl) (by kernel_rfl) (by kernel_rfl)
  exact (h32 _ w).trans (by kernel_rfl)
theorem isMethodComparable (v : Value) (w : World) : (Go.method 270 113 v "Comparable").run Tryd.prog w = .ok (102, v) w := by kernel_rfl
theorem isComp : (Tryd.prog.info? 48).map (·.comparable) = some true := by kernel_rfl

theorem is_same (a : Int) (w : World) :
    Calls Tryd.prog 25 #[.iface 48 (.int .i64 a), .iface 48 (.int .i64 a)] w fun e w' => e = .returned (.bool true) ∧ w' = w := by
  have h8 := @run_callFunc_extern Tryd.prog 44 _ Extern.ReflectliteType.typeOf Tryd.func44 (by kernel_rfl) (by kernel_rfl) (by kernel_rfl) (by kernel_rfl)
  have tT := isTypeOf
  have cT := isComparable
  have mR := isMethodComparable
  have heq := Go.Lib.run_eql_iface_int (P := Tryd.prog) w (k := .i64) (q := .i64) a a Tryd.underlying32 isComp Tryd.underlying48
  rw [beq_self_eq_true] at heq
  go_enter Tryd.func25, Tryd.ntmps25
  go_wp2
  refine wp_loop_rounds 1 ?_
  rw [rounds_succ]
  go_wp2
  go_ret
  exact ⟨rfl, rfl⟩

/-- The world in which errors.errorType holds error's handle. -/
def ErrT (w : World) : Prop := w.cell? ⟨0, 0, none⟩ = some (.iface 113 (.agg #[.pointer (some ⟨1, 32, none⟩)]))
theorem ErrT.below {w w' : World} (h : ErrT w) (hb : Below w.heap.size w w') : ErrT w' := (hb.cell (World.block_lt_of_cell? _ _ h)).trans h

theorem Code_nil (w : World) : Calls Tryd.prog 9 #[.nilIface] w fun e w' => e = .returned (.int .i64 0) ∧ w' = w := by
  go_enter Tryd.func9, Tryd.ntmps9
  go_wp2
  go_ret
  exact ⟨rfl, rfl⟩

theorem as_any (e : Int) (t : Addr) (old : Value) (w : World) (hg : ErrT w) (ht0 : w.cell? t = some old) (hf0 : w.frozen? t = false) :
    Calls Tryd.prog 24 #[.iface 48 (.int .i64 e), .iface 58 (.pointer (some t))] w fun ev w' => ev = .returned (.bool true) ∧ w'.cell? t = some (.int .i64 e) ∧ Below t.block w w' := by
  have htl := World.block_lt_of_cell? w _ ht0
  refine (as_hit e t old w hg ht0 hf0).mono ?_
  rintro ev w' ⟨rfl, rfl⟩
  refine ⟨rfl, ?_, ?_⟩
  · refine World.cell?_setCell_same _ t _ (u := old) ?_
    rw [World.cell?_alloc_lt _ _ t (by simp; omega), World.cell?_alloc_lt _ _ t (by simp; omega), World.cell?_alloc_lt _ _ t (by simp; omega), World.cell?_alloc_lt _ _ t htl]
    exact ht0
  · exact (((((Below.refl _ _).alloc (Nat.le_of_lt htl) _).alloc (by simp; omega) _).alloc (by simp; omega) _).alloc (by simp; omega) _).setCell (Nat.le_refl _) _

set_option maxHeartbeats 1000000 in
theorem Code_errno (e : Int) (w : World) (hg : ErrT w) : Calls Tryd.prog 9 #[.iface 48 (.int .i64 e)] w fun ev w' => ev = .returned (.int .i64 e) ∧ Below w.heap.size w w' := by
  have A := Lib.hid (as_any e ⟨w.heap.size, 0, none⟩ (.int .i64 0) (w.alloc (.cells #[.int .i64 0] 48)) (hg.below ((Below.refl _ _).alloc (Nat.le_refl _) _)) (by simp) (by simp))
  have I := Lib.hid (fun w' => is_same e w')
  clear hg
  go_enter Tryd.func9, Tryd.ntmps9
  go_wp2_with fail
  refine (A.out).mono ?_
  rintro ev w1 ⟨rfl, hc, hb⟩
  replace hb := Lib.hid hb
  clear A
  go_wp2_with fail
  refine (I.out _).mono ?_
  rintro ev w2 ⟨rfl, rfl⟩
  go_wp2_with fail
  go_ret
  exact ⟨rfl, ((Below.refl _ _).alloc (Nat.le_refl _) _).trans hb.out⟩

end Go.Proofs.YtalkhiggapbfjaaDoor.Err
