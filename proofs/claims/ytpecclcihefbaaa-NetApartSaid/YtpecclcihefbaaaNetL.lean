/- tambourlaw18.NetApart: for whatever arguments. -/
import Derived.Test.YtpecclcihefbaaaNetK
set_option linter.unusedVariables false
set_option linter.unusedSimpArgs false
namespace Go.Proofs.Ytpecclcihefbaaa.NetA
open Go.RowKit Go.Proofs.Ytpecclcihefbaaa.B Go.Proofs.Ytpecclcihefbaaa.Rd

theorem apart_many (A1 : Option Addr) (v2 : Value) (len1 cap1 : Nat) (w : World) (hle : 100 < len1) :
    Calls Try.prog 4 #[.slice A1 len1 cap1, v2] w fun e w' => e = .returned (.bool true) ∧ Below w.heap.size w w' := by
  have C0 := Lib.hid (awake_any w)
  go_enter Try.func4, Try.ntmps4
  go_wp2_with fail
  refine (C0.out).mono ?_
  rintro e w1 ⟨rfl, hb1⟩
  go_wp2
  go_ret
  exact ⟨rfl, hb1⟩

theorem apart_any {H : Type} {enc : TypeId × Value → H} (v1 v2 : Value) {d1 d2 : DataW H} {p1 p2 : List MemPlace} (w : World) {base : Nat}
    (hv1 : Value.okWide Try.prog w .any base 22 v1) (h1 : DataW.Trod enc Try.prog w 0 (fun _ => true) true 22 v1 d1 p1) (hw1 : ∀ n ∈ d1.weights Try.prog 22, n ≤ reachBytes)
    (hv2 : Value.okWide Try.prog w .any base 36 v2) (h2 : DataW.Trod enc Try.prog w 0 (fun _ => true) true 36 v2 d2 p2) (hw2 : ∀ n ∈ d2.weights Try.prog 36, n ≤ reachBytes) :
    Calls Try.prog 4 #[v1, v2] w fun e w' => e = .returned (.bool true) ∧ Below w.heap.size w w' := by
  obtain ⟨xs, hx⟩ := open_sl_arg Try.underlying22 hv1 (opens_sl (size := 1) Try.underlying22 (by kernel_rfl) (by omega) (of_decide_eq_true (by kernel_rfl)) (opens_str Try.underlying9)) h1 hw1
  obtain ⟨ys, hy⟩ := open_sl_arg Try.underlying36 hv2 (opens_sl (size := 6) Try.underlying36 (by kernel_rfl) (by omega) (of_decide_eq_true (by kernel_rfl)) opens_act) h2 hw2
  obtain ⟨A1, cap1, rfl⟩ := sl_form hx
  obtain ⟨A2, cap2, rfl⟩ := sl_form hy
  by_cases hle : xs.length ≤ 100
  · exact apart_walk A1 A2 _ cap1 _ cap2 xs w (txs_of hx) (acts_of hy) hle
  · exact apart_many A1 _ _ cap1 w (by omega)

end Go.Proofs.Ytpecclcihefbaaa.NetA
