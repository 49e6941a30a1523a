/- What LawPatchWrites lean on, part x of 29: the texts PsS, PaU, PaV, PaZ, PcA. -/
import Derived.Test.YtbiioaggilaebaaGreatDoorTVg
import Derived.Test.YtbiioaggilaebaaGreatDoorTVq
import Derived.Test.YtbiioaggilaebaaGreatDoorTVr
import Derived.Test.YtbiioaggilaebaaGreatDoorTVs
import Derived.Test.YtbiioaggilaebaaGreatDoorTVt
import Derived.Test.YtbiioaggilaebaaGreatDoorTVu
import Derived.Test.YtbiioaggilaebaaGreatDoorTVv
import Derived.Test.YtbiioaggilaebaaGreatDoorTVw
import Derived.RangeFuncNested
import Derived.RangeFuncBound
import Derived.RangeFuncCalls
import Derived.RangeFuncLeaves
import Derived.Shelf.Abstract
import Derived.WalkKit
import Derived.OwnWalkIn
import Derived.TacticsInMore
import Derived.LoopNIn
import Derived.LoopIn
set_option linter.unusedVariables false
set_option linter.unusedSimpArgs false
namespace Go.Proofs.YtbiioaggilaebaaGreatDoor.Pa
open Go Go.RowKit Go.Proofs.YtbiioaggilaebaaGreatDoorW.PrintWords Go.Proofs.YtbiioaggilaebaaGreatDoor.B Go.Proofs.YtbiioaggilaebaaGreatDoor.Tm Go.Proofs.YtbiioaggilaebaaGreatDoor.Wi
set_option maxRecDepth 100000 in
set_option maxHeartbeats 4000000 in
theorem rsame_c (A : Option Addr) (c : Nat) (A' : Option Addr) (c' : Nat) (l : List ByteArray) (w : World) (h : TxAt w A c l) (h' : TxAt w A' c' l) :
    Calls Tryz.prog 58 #[.slice A l.length c, .slice A' l.length c'] w fun e w' => e = .returned (.bool true) ∧ Below w.heap.size w w' := by
  obtain ⟨n, hn⟩ : ∃ n, n = l.length := ⟨_, rfl⟩
  rw [← hn]
  have hn4 : n ≤ 140737488351232 := by rw [hn]; exact h.2.2.1
  have hH := Lib.hid h
  have hH' := Lib.hid h'
  replace hn := Lib.hid hn
  clear h h'
  go_enter Tryz.func58, Tryz.ntmps58
  go_upto_region 4 with fail
  go_loopg [5] n (fun g' i W => ∃ j : Nat, g' = n - j ∧ j ≤ n ∧ i = .int .i64 j ∧ Below w.heap.size w W)
  case atStart => exact ⟨0, rfl, by omega, rfl, Below.refl _ _⟩
  case round =>
    obtain ⟨j, hg', hj, rfl, hb⟩ := hrel
    subst hg'
    have hbH := Lib.hid hb
    by_cases hjn : j < n
    · have hji : (j : Int) < (n : Int) := by omega
      obtain ⟨b, o, rfl, c1⟩ := str_cell (hH.out.below hb).1 j (by rw [← hn.out]; exact hjn)
      obtain ⟨b', o', rfl, c2⟩ := str_cell (hH'.out.below hb).1 j (by rw [← hn.out]; exact hjn)
      obtain ⟨s, hs⟩ : ∃ s, s = l.getD j ByteArray.empty := ⟨_, rfl⟩
      rw [← hs] at c1 c2
      clear hs hb
      have p1 := Lat.cell c1
      have p2 := Lat.cell c2
      clear c1 c2
      go_upto_region 6 with fail
      refine wp_region_lat (by kernel_rfl) (by kernel_rfl) ?_
      repeat (go_big_quiet_step (fail))
      refine wpQuiet_nil ?_
      intro _ hw'
      obtain ⟨xl, hw''⟩ := hw'
      subst hw''
      have hbx := Lib.hid (hbH.out.trans (xl.below.mono hbH.out.size))
      go_wp2_with fail
      go_roundg (n - (j + 1))
      case measure => omega
      case rel => exact ⟨j + 1, rfl, by omega, by go_num, hbx.out⟩
    · have hji : ¬ (j : Int) < (n : Int) := by omega
      clear hb
      go_wp2_with fail
      go_ret
      exact ⟨rfl, hbH.out⟩
attribute [local go_sem high] ref_eqA
set_option maxRecDepth 100000 in
set_option maxHeartbeats 8000000 in
theorem psame5_c (note : ByteArray) (D : Option Addr) (dc : Nat) (deps : List ByteArray) (A : Option Addr) (ac : Nat) (ops : List Op) (D' : Option Addr) (dc' : Nat) (A' : Option Addr) (ac' : Nat) (w : World) (hD : TxAt w D dc deps) (hO : OpsAt w A ac ops) (hD' : TxAt w D' dc' deps) (hO' : OpsAt w A' ac' ops) :
    Calls Tryz.prog 23 #[.agg #[.string note, .slice D deps.length dc, .slice A ops.length ac], .agg #[.string note, .slice D' deps.length dc', .slice A' ops.length ac']] w fun e w' => e = .returned (.bool true) ∧ Below w.heap.size w w' := by
  obtain ⟨g, hg⟩ : ∃ g, g = w.heap.size := ⟨_, rfl⟩
  obtain ⟨w1, hw1⟩ : ∃ w1, w1 = w.alloc (.cells #[.string note, .slice D deps.length dc, .slice A ops.length ac] 25) := ⟨_, rfl⟩
  obtain ⟨w2, hw2⟩ : ∃ w2, w2 = w1.alloc (.cells #[.string note, .slice D' deps.length dc', .slice A' ops.length ac'] 25) := ⟨_, rfl⟩
  have hs1 : w1.heap.size = g + 1 := by rw [hw1, hg]; simp
  have hb2 := Lib.hid (show Below w.heap.size w w2 by rw [hw2, hw1]; exact ((Below.refl _ _).alloc (Nat.le_refl _) _).alloc (by simp) _)
  have hp2 := Lib.hid (show PatAt w2 g note D deps.length dc A ops.length ac by unfold PatAt; rw [hw2, heap_alloc_lt _ _ _ (by omega), hw1, hg]; exact heap_alloc_at _ _)
  have hq2 := Lib.hid (show PatAt w2 (g + 1) note D' deps.length dc' A' ops.length ac' by unfold PatAt; rw [hw2, ← hs1]; exact heap_alloc_at _ _)
  have CD := Lib.hid (rsame_c D dc D' dc' deps w2 (hD.below hb2.out) (hD'.below hb2.out))
  have hOH := Lib.hid (hO.below hb2.out)
  have hOH' := Lib.hid (hO'.below hb2.out)
  have hn4 : ops.length ≤ 140737488351232 := hO.2.1
  obtain ⟨nd, hnd⟩ : ∃ nd, nd = deps.length := ⟨_, rfl⟩
  obtain ⟨no, hno⟩ : ∃ no, no = ops.length := ⟨_, rfl⟩
  rw [← hnd, ← hno] at hw1 hw2 hp2 hq2 ⊢
  rw [← hnd] at CD
  rw [← hno] at hn4
  replace hno := Lib.hid hno
  clear hD hO hD' hO' hnd
  obtain ⟨p0, p1, p2, _, _⟩ := blk3' hp2.out
  obtain ⟨q0, q1, q2, _, _⟩ := blk3' hq2.out
  go_enter Tryz.func23, Tryz.ntmps23
  go_upto_region 1 with fail
  rw [← hw1, ← hg]
  try rw [hs1]
  rw [← hw2]
  replace hw1 := Lib.hid hw1
  replace hw2 := Lib.hid hw2
  replace hg := Lib.hid hg
  replace hs1 := Lib.hid hs1
  go_wp2_with fail
  refine (CD.out).mono ?_
  rintro ev w3 ⟨rfl, hb3⟩
  have hp3 := Lib.hid ((hb3.block _ (heap_lt hp2.out)).trans hp2.out)
  have hq3 := Lib.hid ((hb3.block _ (heap_lt hq2.out)).trans hq2.out)
  have hO3 := Lib.hid (hOH.out.below hb3)
  have hO3' := Lib.hid (hOH'.out.below hb3)
  have y3 := Lib.hid (hb2.out.trans (hb3.mono hb2.out.size))
  clear hb3 p0 p1 p2 q0 q1 q2 CD hOH hOH'
  obtain ⟨p0, p1, p2, _, _⟩ := blk3' hp3.out
  obtain ⟨q0, q1, q2, _, _⟩ := blk3' hq3.out
  go_upto_region 4 with fail
  clear p0 p1 p2 q0 q1 q2
  go_loopg [5] no (fun g' i W => ∃ j : Nat, g' = no - j ∧ j ≤ no ∧ i = .int .i64 j ∧ Below w3.heap.size w3 W)
  case atStart => exact ⟨0, rfl, by omega, rfl, Below.refl _ _⟩
  case round =>
    obtain ⟨j, hg', hj, rfl, hb⟩ := hrel
    subst hg'
    have hbH := Lib.hid hb
    have hpr := Lib.hid ((hb.block _ (heap_lt hp3.out)).trans hp3.out)
    have hqr := Lib.hid ((hb.block _ (heap_lt hq3.out)).trans hq3.out)
    obtain ⟨p0, p1, p2, _, _⟩ := blk3' hpr.out
    obtain ⟨q0, q1, q2, _, _⟩ := blk3' hqr.out
    by_cases hjn : j < no
    · have hji : (j : Int) < (no : Int) := by omega
      have hjl : j < ops.length := by rw [← hno.out]; exact hjn
      obtain ⟨x, hx⟩ : ∃ x, ops[j]? = some x := ⟨_, List.getElem?_eq_getElem hjl⟩
      obtain ⟨b, of, L, cl, rfl, c0, c1, c2, c3, c4, c5, hT⟩ := (hO3.out.below hb).get j x hx
      obtain ⟨b', of', L', cl', rfl, d0, d1, d2, d3, d4, d5, hT'⟩ := (hO3'.out.below hb).get j x hx
      replace hx := Lib.hid hx
      obtain ⟨xk, xa, xm, xb, xn, xls⟩ := x
      simp only at c0 c1 c2 c3 c4 c5 d0 d1 d2 d3 d4 d5 hT hT'
      obtain ⟨u, hu⟩ : ∃ u, u = wr.heap.size := ⟨_, rfl⟩
      obtain ⟨w4, hw4⟩ : ∃ w4, w4 = wr.alloc (.cells #[.int .i64 xk, .int .i64 xa, .int .i64 xm, .int .i64 xb, .int .i64 xn, .slice L xls.length cl] 38) := ⟨_, rfl⟩
      obtain ⟨w5, hw5⟩ : ∃ w5, w5 = w4.alloc (.cells #[.int .i64 xk, .int .i64 xa, .int .i64 xm, .int .i64 xb, .int .i64 xn, .slice L' xls.length cl'] 38) := ⟨_, rfl⟩
      have hs4 : w4.heap.size = u + 1 := by rw [hw4, hu]; simp
      have hb4 := Lib.hid (show Below wr.heap.size wr w4 by rw [hw4]; exact Wi.below_alloc _ _)
      have hb5 := Lib.hid (show Below wr.heap.size wr w5 by rw [hw5]; exact hb4.out.alloc hb4.out.size _)
      have hu5 := Lib.hid (show w5.heap[u]? = some (.cells #[.int .i64 xk, .int .i64 xa, .int .i64 xm, .int .i64 xb, .int .i64 xn, .slice L xls.length cl] 38 (0, 0)) by rw [hw5, heap_alloc_lt _ _ _ (by omega), hw4, hu]; exact heap_alloc_at _ _)
      have hv5 := Lib.hid (show w5.heap[u + 1]? = some (.cells #[.int .i64 xk, .int .i64 xa, .int .i64 xm, .int .i64 xb, .int .i64 xn, .slice L' xls.length cl'] 38 (0, 0)) by rw [hw5, ← hs4]; exact heap_alloc_at _ _)
      have CL := Lib.hid (rsame_c L cl L' cl' xls w5 (hT.below hb5.out) (hT'.below hb5.out))
      have hk4 := Lib.hid (show ∀ (p : Addr) (v : Value), wr.cell? p = some v → w4.cell? p = some v from fun p v h => keepc hb4.out h)
      have e0 := hk4.out _ _ d0
      have e1 := hk4.out _ _ d1
      have e2 := hk4.out _ _ d2
      have e3 := hk4.out _ _ d3
      have e4 := hk4.out _ _ d4
      have e5 := hk4.out _ _ d5
      have e6 := hk4.out _ _ q2
      clear hT hT' d0 d1 d2 d3 d4 d5 hb q0 q1 q2
      go_upto_region 7 with fail
      rw [← hw4, ← hu]
      replace hw4 := Lib.hid hw4
      replace hu := Lib.hid hu
      clear c0 c1 c2 c3 c4 c5 p0 p1 p2
      go_upto_region 8 with fail
      rw [← hw5]
      try rw [hs4]
      replace hw5 := Lib.hid hw5
      replace hs4 := Lib.hid hs4
      clear e0 e1 e2 e3 e4 e5 e6
      obtain ⟨c0, c1, c2, c3, c4, c5, _, _⟩ := six_facts hu5.out
      obtain ⟨d0, d1, d2, d3, d4, d5, _, _⟩ := six_facts hv5.out
      go_wp2_with fail
      refine (CL.out).mono ?_
      rintro ev w6 ⟨rfl, hb6⟩
      have y6 := Lib.hid (hbH.out.trans ((hb5.out.trans (hb6.mono hb5.out.size)).mono hbH.out.size))
      clear hb6 c0 c1 c2 c3 c4 c5 d0 d1 d2 d3 d4 d5
      go_wp2_with fail
      go_roundg (no - (j + 1))
      case measure => omega
      case rel => exact ⟨j + 1, rfl, by omega, by go_num, y6.out⟩
    · have hji : ¬ (j : Int) < (no : Int) := by omega
      clear hb
      go_wp2_with fail
      go_ret
      exact ⟨rfl, y3.out.trans (hbH.out.mono y3.out.size)⟩
end Go.Proofs.YtbiioaggilaebaaGreatDoor.Pa
set_option linter.unusedVariables false
set_option linter.unusedSimpArgs false
namespace Go.Proofs.YtbiioaggilaebaaGreatDoor.Pa
open Go Go.RowKit Go.Proofs.YtbiioaggilaebaaGreatDoorW.PrintWords Go.Proofs.YtbiioaggilaebaaGreatDoor.B Go.Proofs.YtbiioaggilaebaaGreatDoor.Tm Go.Proofs.YtbiioaggilaebaaGreatDoor.Wi Go.Proofs.YtbiioaggilaebaaGreatDoor.Dig
set_option maxRecDepth 100000 in
set_option maxHeartbeats 32000000 in
theorem rright5_c (note : ByteArray) (D : Option Addr) (dc : Nat) (deps : List ByteArray) (A : Option Addr) (ac : Nat) (ops : List Op) (w : World) (hD : TxAt w D dc deps) (hO : OpsAt w A ac ops) :
    Calls Tryz.prog 47 #[.agg #[.string note, .slice D deps.length dc, .slice A ops.length ac]] w fun e w' => e = .returned (.bool (pright note deps ops)) ∧ Below w.heap.size w w' := by
  obtain ⟨g, hg⟩ : ∃ g, g = w.heap.size := ⟨_, rfl⟩
  obtain ⟨w1, hw1⟩ : ∃ w1, w1 = w.alloc (.cells #[.string note, .slice D deps.length dc, .slice A ops.length ac] 25) := ⟨_, rfl⟩
  have hb1 := Lib.hid (show Below w.heap.size w w1 by rw [hw1]; exact Wi.below_alloc _ _)
  have hP1 : PatAt w1 g note D deps.length dc A ops.length ac := by unfold PatAt; rw [hw1, hg]; exact heap_alloc_at _ _
  obtain ⟨R, hR⟩ : ∃ R, R = pright note deps ops := ⟨_, rfl⟩
  rw [← hR]
  have hno' := Lib.hid (fun (h : pfits note deps ops = false) => show R = false by rw [hR]; unfold pright; rw [h, Bool.false_and])
  have hDH := Lib.hid hD
  have hOH := Lib.hid hO
  have hdl := hD.2.2.1
  have hds := hD.2.2.2
  have hal := hO.2.1
  have hac := hO.1
  have hdc := hD.2.1
  obtain ⟨nd, hnd⟩ : ∃ nd, nd = deps.length := ⟨_, rfl⟩
  obtain ⟨no, hno⟩ : ∃ no, no = ops.length := ⟨_, rfl⟩
  rw [← hnd] at hw1 hP1 hdc hdl ⊢
  rw [← hno] at hw1 hP1 hac hal ⊢
  have hdsH := Lib.hid hds
  have hgw := Lib.hid (show w.heap.size ≤ g by rw [hg]; exact Nat.le_refl _)
  clear hds hD hO
  replace hR := Lib.hid hR
  replace hnd := Lib.hid hnd
  replace hno := Lib.hid hno
  replace hP1 := Lib.hid hP1
  obtain ⟨p0, p1, p2, _, _⟩ := blk3' hP1.out
  go_enter Tryz.func47, Tryz.ntmps47
  go_upto_region 1 with fail
  rw [← hw1, ← hg]
  replace hw1 := Lib.hid hw1
  replace hg := Lib.hid hg
  by_cases s1 : (100 : Int) < (note.size : Int)
  · have hf := Lib.hid (hno'.out (pfits_big (by omega)))
    go_wp2_with fail
    go_ret
    exact ⟨ret_b hf.out.symm, hb1.out⟩
  by_cases s2 : (64 : Int) < (nd : Int)
  · have hf := Lib.hid (hno'.out (pfits_big (by have := hnd.out; omega)))
    go_wp2_with fail
    go_ret
    exact ⟨ret_b hf.out.symm, hb1.out⟩
  by_cases s3 : (400 : Int) < (no : Int)
  · have hf := Lib.hid (hno'.out (pfits_big (by have := hno.out; omega)))
    go_wp2_with fail
    go_ret
    exact ⟨ret_b hf.out.symm, hb1.out⟩
  have hsizes := Lib.hid (show note.size ≤ 100 ∧ deps.length ≤ 64 ∧ ops.length ≤ 400 by have := hnd.out; have := hno.out; omega)
  have hnd64 : nd ≤ 64 := by omega
  have hno4 : no ≤ 400 := by omega
  go_upto_region 4 with fail
  clear s1 s2 s3 p0 p1 p2
  go_loopg [3] nd (fun g' i W => ∃ k : Nat, g' = nd - k ∧ k ≤ nd ∧ i = .int .i64 k ∧ (∀ j, j < k → okAt deps j = true) ∧ Below w1.heap.size w1 W)
  case atStart => exact ⟨0, rfl, by omega, rfl, fun j hj => absurd hj (by omega), Below.refl _ _⟩
  case round =>
    obtain ⟨k, hg', hk, rfl, hok, hb⟩ := hrel
    subst hg'
    have hPr := Lib.hid (show PatAt wr g note D nd dc A no ac from (hb.block _ (heap_lt hP1.out)).trans hP1.out)
    have hbH := Lib.hid (hb1.out.trans (hb.mono hb1.out.size))
    have hbH' := Lib.hid hb
    obtain ⟨p0, p1, p2, _, _⟩ := blk3' hPr.out
    by_cases hkn : k < nd
    · have hki : (k : Int) < (nd : Int) := by omega
      have hkl : k < deps.length := by rw [← hnd.out]; exact hkn
      obtain ⟨b, o, rfl, hcell⟩ := str_cell (Kd.C_below hDH.out.1 hbH.out) k hkl
      have hx := hdsH.out _ (getD_mem' deps k ByteArray.empty hkl)
      have CR := fun W => Lib.hid (rightRef (deps.getD k ByteArray.empty) W hx)
      have hok2 : okAt deps k = (rightL (deps.getD k ByteArray.empty).data.toList && (decide (k = 0) || Op.bytesLess (deps.getD (k - 1) ByteArray.empty).toList (deps.getD k ByteArray.empty).toList)) := rfl
      have hbad := Lib.hid (fun h => hno'.out (pfits_dep (note := note) (ops := ops) hkl h))
      have hprev : k ≠ 0 → wr.cell? ⟨b, o + (k - 1), none⟩ = some (.string (deps.getD (k - 1) ByteArray.empty)) := by
        intro h0
        obtain ⟨b1, o1, hA, hcell1⟩ := str_cell (Kd.C_below hDH.out.1 hbH.out) (k - 1) (by omega)
        injection hA with hA
        injection hA with hA1 hA2 _
        subst hA1 hA2
        exact hcell1
      generalize deps.getD k ByteArray.empty = x at *
      generalize hrx : rightL x.data.toList = rx at *
      clear hrx hx
      replace hprev := Lib.hid hprev
      have hokH := Lib.hid hok
      have hgl := Lib.hid hbH'.out.size
      clear hb hok
      have hA := Lib.hid p1
      have hB := Lib.hid hcell
      cases rx with
      | false =>
        have hbd := Lib.hid (hbad.out hok2)
        clear hbad hok2 hprev
        go_upto_region 6 with fail
        have hA3 := Lat.cell hA.out
        have hB3 := Lat.cell hB.out
        refine wp_region_lat (by kernel_rfl) (by kernel_rfl) ?_
        repeat (go_big_quiet_step ((go_at_call 81; exact lat_of (CR _).out)))
        refine wpQuiet_nil ?_
        intro _ hw'
        obtain ⟨xl, hw''⟩ := hw'
        subst hw''
        have hb4 := Lib.hid xl.below
        clear hA3 hB3
        go_wp2_with fail
        go_ret
        exact ⟨ret_b hbd.out.symm, hbH.out.trans (hb4.out.mono hbH.out.size)⟩
      | true =>
        by_cases hk0 : k = 0
        · subst hk0
          have hki0 : ¬ (0 : Int) < ((0 : Nat) : Int) := by omega
          have hko : okAt deps 0 = true := by rw [hok2]; rfl
          have hkoH := Lib.hid hko
          clear hko hok2 hbad hprev
          go_upto_region 6 with fail
          have hA3 := Lat.cell hA.out
          have hB3 := Lat.cell (show wr.cell? ⟨b, o, none⟩ = some (.string x) from hB.out)
          refine wp_region_lat (by kernel_rfl) (by kernel_rfl) ?_
          repeat (go_big_quiet_step ((go_at_call 81; exact lat_of (CR _).out)))
          refine wpQuiet_nil ?_
          intro _ hw'
          obtain ⟨xl, hw''⟩ := hw'
          subst hw''
          have hb4 := Lib.hid xl.below
          clear hA3 hB3
          all_goals (try go_wp2_with fail)
          go_roundg (nd - 1)
          case measure => omega
          case rel => exact ⟨1, rfl, by omega, by go_num, fun j hj => by rw [show j = 0 from by omega]; exact hkoH.out, hbH'.out.trans (hb4.out.mono hgl.out)⟩
        · have hki0 : (0 : Int) < (k : Int) := by omega
          have hkp0 : 0 < k := by omega
          have hkw : IntKind.i64.wrap ((k : Int) - 1) = ((k - 1 : Nat) : Int) := by rw [show (k : Int) - 1 = ((k - 1 : Nat) : Int) from by omega]; exact Lib.wrap_i64_small _ (by omega)
          have hk1 : ((k - 1 : Nat) : Int) < (nd : Int) := by omega
          have hp := Lib.hid (hprev.out hk0)
          generalize deps.getD (k - 1) ByteArray.empty = y at *
          rw [decide_eq_false hk0, Bool.false_or, Bool.true_and] at hok2
          have hle := le_lt x.toList y.toList
          obtain ⟨lt, hlt⟩ : ∃ lt, lt = Op.bytesLess y.toList x.toList := ⟨_, rfl⟩
          rw [← hlt] at hok2 hle
          replace hlt := Lib.hid hlt
          have hok2H := Lib.hid hok2
          clear hok2 hprev
          cases lt with
          | true =>
            simp only [Bool.not_true] at hle
            go_upto_region 6 with fail
            have hA3 := Lat.cell hA.out
            have hB3 := Lat.cell hB.out
            have hp3 := Lat.cell hp.out
            refine wp_region_lat (by kernel_rfl) (by kernel_rfl) ?_
            repeat (go_big_quiet_step ((go_at_call 81; exact lat_of (CR _).out)))
            refine wpQuiet_nil ?_
            intro _ hw'
            obtain ⟨xl, hw''⟩ := hw'
            subst hw''
            have hb4 := Lib.hid xl.below
            clear hA3 hB3 hp3
            all_goals (try go_wp2_with fail)
            all_goals go_roundg (nd - (k + 1))
            all_goals first | omega | exact ⟨k + 1, rfl, by omega, by go_num, fun j hj => by by_cases h : j < k; exact hokH.out j h; rw [show j = k from by omega]; exact hok2H.out, hbH'.out.trans (hb4.out.mono hgl.out)⟩
          | false =>
            simp only [Bool.not_false] at hle
            have hbd := Lib.hid (hbad.out hok2H.out)
            go_upto_region 6 with fail
            have hA3 := Lat.cell hA.out
            have hB3 := Lat.cell hB.out
            have hp3 := Lat.cell hp.out
            refine wp_region_lat (by kernel_rfl) (by kernel_rfl) ?_
            repeat (go_big_quiet_step ((go_at_call 81; exact lat_of (CR _).out)))
            refine wpQuiet_nil ?_
            intro _ hw'
            obtain ⟨xl, hw''⟩ := hw'
            subst hw''
            have hb4 := Lib.hid xl.below
            clear hA3 hB3 hp3
            all_goals (try go_wp2_with fail)
            all_goals go_ret
            all_goals exact ⟨ret_b hbd.out.symm, hbH.out.trans (hb4.out.mono hbH.out.size)⟩
    · have hkn' : k = nd := by omega
      subst hkn'
      have hki : ¬ (k : Int) < (k : Int) := by omega
      have hdep := Lib.hid (show ∀ j, j < deps.length → okAt deps j = true from fun j hj => hok j (by rw [hnd.out]; exact hj))
      clear hok hb
      obtain ⟨wa, hwa⟩ : ∃ wa, wa = wr := ⟨_, rfl⟩
      subst hwa
      go_upto_region 10 with fail
      clear p0 p1 p2
      have hba := Lib.hid hbH.out
      have hPa := Lib.hid hPr.out
      go_loopg [5, 4] no (fun g' i o W => ∃ j : Nat, g' = no - j ∧ j ≤ no ∧ i = .int .i64 j ∧ o = .int .i64 ((made (ops.take j) : Nat) : Int) ∧ (∀ m x, m < j → ops[m]? = some x → opOk (made (ops.take m)) deps.length x = true) ∧ Below wa.heap.size wa W)
      case atStart => exact ⟨0, rfl, by omega, rfl, rfl, fun m x hm => absurd hm (by omega), Below.refl _ _⟩
      case round =>
        obtain ⟨j, hg', hj, rfl, rfl, hok, hb⟩ := hrel
        subst hg'
        have hPr := Lib.hid (show PatAt wr g note D k dc A no ac from (hb.block _ (heap_lt hPa.out)).trans hPa.out)
        have hbH := Lib.hid (hba.out.trans (hb.mono hba.out.size))
        have hbH' := Lib.hid hb
        have hgl := Lib.hid hb.size
        have hokH := Lib.hid hok
        obtain ⟨p0, p1, p2, _, _⟩ := blk3' hPr.out
        obtain ⟨ow, how⟩ : ∃ ow, ow = made (ops.take j) := ⟨_, rfl⟩
        rw [← how]
        clear hok hb
        by_cases hjn : j < no
        · have hji : (j : Int) < (no : Int) := by omega
          obtain ⟨⟨kk, ka, km, kb, kn, kl⟩, ho⟩ : ∃ o, ops[j]? = some o := ⟨ops[j]'(by rw [← hno.out]; exact hjn), List.getElem?_eq_getElem _⟩
          obtain ⟨b, of, L, cl, hAe, o0, o1, o2, o3, o4, o5, hT⟩ := (hOH.out.below hbH.out).get j _ ho
          subst hAe
          have hTH := Lib.hid hT
          have hstep := made_step ops j _ ho
          have hmb := made_bound 140737488351232 (ops.take j) (fun o hoo => by
            obtain ⟨i, hi, rfl⟩ := List.getElem_of_mem (List.mem_of_mem_take hoo)
            obtain ⟨_, _, _, _, _, _, _, _, _, _, _, hTi⟩ := (hOH.out.below hbH.out).get i _ (List.getElem?_eq_getElem hi)
            exact hTi.2.2.1)
          have hlen := hT.2.2.1
          rw [← how] at hstep hmb
          have hbound : ow + kl.length ≤ 401 * 140737488351232 := by
            have : (ops.take j).length ≤ 400 := by rw [List.length_take]; omega
            have := Nat.mul_le_mul_right 140737488351232 this
            show ow + (Op.mk kk ka km kb kn kl).ls.length ≤ _
            omega
          have CO := Lib.hid (fun W (h : Below wr.heap.size wr W) => rop_c ow k kk ka km kb kn kl L cl W (hTH.out.below h))
          have hopb := Lib.hid (fun h => hno'.out (pfits_opb (note := note) (deps := deps) ho h))
          have hk' := Lib.hid hnd.out
          rw [← how] at hopb
          have hstepH := Lib.hid hstep
          have hoH := Lib.hid ho
          obtain ⟨nl, hnl⟩ : ∃ nl, nl = kl.length := ⟨_, rfl⟩
          have o5' : wr.cell? ⟨b, of + j * 6 + 5, none⟩ = some (.slice L nl cl) := by rw [hnl]; exact o5
          rw [← hnl] at CO hbound
          have hwr : IntKind.i64.wrap ((ow : Int) + (nl : Int)) = ((ow + nl : Nat) : Int) := by rw [show (ow : Int) + (nl : Int) = ((ow + nl : Nat) : Int) from by omega]; exact Lib.wrap_i64_small _ (by omega)
          have howH := Lib.hid how
          replace hnl := Lib.hid hnl
          clear o5 hT hmb hlen hstep ho how
          obtain ⟨rv, hrv⟩ : ∃ rv, rv = opOk (ow : Int) (k : Int) ⟨kk, ka, km, kb, kn, kl⟩ := ⟨_, rfl⟩
          rw [← hrv] at CO
          go_upto_region 12 with fail
          have a1 := Lat.cell p1
          have a2 := Lat.cell p2
          have b0 := Lat.cell o0
          have b1 := Lat.cell o1
          have b2 := Lat.cell o2
          have b3 := Lat.cell o3
          have b4 := Lat.cell o4
          have b5 := Lat.cell o5'
          replace hrv := Lib.hid hrv
          have LO := Lib.hid (fun x : Lat wr => lat_of (CO.out _ x.below))
          clear p0 p1 p2 o1 o2 o3 o4
          have o0H := Lib.hid o0
          have o5H := Lib.hid o5'
          clear o0 o5' CO
          refine wp_region_lat (by kernel_rfl) (by kernel_rfl) ?_
          repeat (go_big_quiet_step (fail))
          go_big_quiet_step ((go_at_call 82; exact LO.out _))
          repeat (go_big_quiet_step (fail))
          refine wpQuiet_nil ?_
          intro _ hw'
          obtain ⟨xl, hw''⟩ := hw'
          subst hw''
          have hb4 := Lib.hid xl.below
          clear a1 a2 b0 b1 b2 b3 b4 b5
          have hP4 := Lib.hid (show PatAt xl.val g note D k dc (some ⟨b, of, none⟩) no ac from (hb4.out.block _ (heap_lt hPr.out)).trans hPr.out)
          obtain ⟨p0, p1, p2, _, _⟩ := blk3' hP4.out
          have o0 := keepc hb4.out o0H.out
          have o5' := keepc hb4.out o5H.out
          cases rv with
          | false =>
            have hf := Lib.hid (hopb.out (by rw [← hk'.out]; exact hrv.out.symm))
            go_wp2_with fail
            go_ret
            exact ⟨ret_b hf.out.symm, hbH.out.trans (hb4.out.mono hbH.out.size)⟩
          | true =>
            have okNext := Lib.hid (show ∀ m x, m < j + 1 → ops[m]? = some x → opOk (made (ops.take m)) deps.length x = true from fun m o hm ho => by
              by_cases e : m < j
              · exact hokH.out m o e ho
              · obtain rfl : m = j := by omega
                obtain rfl := Option.some.inj (hoH.out.symm.trans ho)
                rw [← hk'.out, ← howH.out]
                exact hrv.out.symm)
            by_cases hk1 : kk = 1
            · subst hk1
              have hm1 := Lib.hid (show made (ops.take (j + 1)) = ow + nl by rw [hstepH.out, hnl.out]; rfl)
              go_wp2_with fail
              go_roundg (no - (j + 1))
              all_goals first | omega | exact ⟨j + 1, rfl, by omega, by go_num, by rw [hm1.out]; first | rfl | (congr 1; omega), okNext.out, hbH'.out.trans (hb4.out.mono hgl.out)⟩
            · have e1 : (kk == 1) = false := by rw [beq_eq_false_iff_ne]; exact hk1
              have hm1 := Lib.hid (show made (ops.take (j + 1)) = ow by rw [hstepH.out]; show ow + (if kk = 1 then kl.length else 0) = ow; rw [if_neg hk1]; rfl)
              clear hk1
              go_wp2_with fail
              go_roundg (no - (j + 1))
              all_goals first | omega | exact ⟨j + 1, rfl, by omega, by go_num, by rw [hm1.out], okNext.out, hbH'.out.trans (hb4.out.mono hgl.out)⟩
        · have hjn' : j = no := by omega
          subst hjn'
          have hji : ¬ (j : Int) < (j : Int) := by omega
          have hgood := Lib.hid (pfits_good hsizes.out hdep.out (fun m o ho => hokH.out m o (by rw [hno.out]; exact (List.getElem?_eq_some_iff.1 ho).1) ho))
          rw [List.take_of_length_le (by rw [← hno.out]; exact Nat.le_refl _)] at how
          replace how := Lib.hid how
          by_cases h3 : (300 : Int) < (ow : Int)
          · have hf := Lib.hid (hno'.out (by rw [hgood.out, ← how.out]; simp; omega))
            go_wp2_with fail
            go_ret
            exact ⟨ret_b hf.out.symm, hbH.out⟩
          · have hfit : pfits note deps ops = true := by rw [hgood.out, ← how.out]; simp; omega
            have hpl := Lib.hid (pbytes_len hfit)
            have hRv := Lib.hid (show R = decide ((pform note deps ops).bytes.length ≤ 65536) by rw [hR.out]; unfold pright; rw [hfit, Bool.true_and]; rfl)
            have CF := rform_c note D dc deps A ac ops wr (hDH.out.below hbH.out) (hOH.out.below hbH.out) hfit
            rw [← hnd.out, ← hno.out] at CF
            replace CF := Lib.hid CF
            clear hfit
            go_upto_region 18 with fail
            go_wp2_with fail
            refine (CF.out).mono ?_
            rintro ev w5 ⟨q, n, c, rfl, hFK, hb5⟩
            have hV5 := FK.toFV (B := w5.heap.size) (fun b ⟨_, h⟩ => h) _ _ hFK
            have hb5H := Lib.hid (hbH.out.trans (hb5.mono hbH.out.size))
            have CWo := Lib.hid (fun h => rwrite_c (pform note deps ops) _ _ _ w5 hV5 (pform_right _ _ _) (by have := pform_depth note deps ops; omega) h)
            have CWb := Lib.hid (fun h => rwrite_big (pform note deps ops) _ _ _ w5 hV5 (pform_right _ _ _) (by have := pform_depth note deps ops; omega) h (by have : (pform note deps ops).bytes.length ≤ 300000 := hpl.out; omega))
            clear hFK hV5 hb5
            by_cases hsz : (pform note deps ops).bytes.length ≤ 65536
            · have CW := Lib.hid (CWo.out hsz)
              have hRt := Lib.hid (show R = true by rw [hRv.out, decide_eq_true hsz])
              clear hsz CWo CWb
              generalize (⟨(pform note deps ops).bytes.toArray⟩ : ByteArray) = tx at CW
              go_wp2_with fail
              refine (CW.out).mono ?_
              rintro ev w6 ⟨rfl, hb6⟩
              have hb6H := Lib.hid (hb5H.out.trans (hb6.mono hb5H.out.size))
              clear hb6
              go_wp2_with fail
              go_ret
              exact ⟨ret_b hRt.out.symm, hb6H.out⟩
            · have CW := Lib.hid (CWb.out (by omega))
              have hRt := Lib.hid (show R = false by rw [hRv.out, decide_eq_false hsz])
              clear hsz CWo CWb
              go_wp2_with fail
              refine (CW.out).mono ?_
              rintro ev w6 ⟨rfl, hb6⟩
              have hb6H := Lib.hid (hb5H.out.trans (hb6.mono hb5H.out.size))
              clear hb6
              go_wp2_with fail
              go_ret
              exact ⟨ret_b hRt.out.symm, hb6H.out⟩
end Go.Proofs.YtbiioaggilaebaaGreatDoor.Pa
set_option linter.unusedVariables false
set_option linter.unusedSimpArgs false
namespace Go.Proofs.YtbiioaggilaebaaGreatDoor.Pa
open Go Go.RowKit Go.Proofs.YtbiioaggilaebaaGreatDoorW.PrintWords Go.Proofs.YtbiioaggilaebaaGreatDoor.B Go.Proofs.YtbiioaggilaebaaGreatDoor.Tm Go.Proofs.YtbiioaggilaebaaGreatDoor.Wi
def rwrOf (note : ByteArray) (deps : List ByteArray) (ops : List Op) : Value :=
  if pright note deps ops then .tuple #[.string ⟨(pbytes note deps ops).toArray⟩, .int .i64 0] else .tuple #[.string ⟨#[]⟩, .int .i64 10]
def rnmOf (note : ByteArray) (deps : List ByteArray) (ops : List Op) : Value :=
  if pright note deps ops then .tuple #[.string (pname note deps ops), .int .i64 0] else .tuple #[.string ⟨#[]⟩, .int .i64 10]
theorem pright_fits {note : ByteArray} {deps : List ByteArray} {ops : List Op} (h : pright note deps ops = true) : pfits note deps ops = true := by
  unfold pright at h
  rw [Bool.and_eq_true] at h
  exact h.1
set_option maxRecDepth 100000 in
set_option maxHeartbeats 8000000 in
theorem rwrite5_c (note : ByteArray) (D : Option Addr) (dc : Nat) (deps : List ByteArray) (A : Option Addr) (ac : Nat) (ops : List Op) (w : World) (hD : TxAt w D dc deps) (hO : OpsAt w A ac ops) :
    Calls Tryz.prog 16 #[.agg #[.string note, .slice D deps.length dc, .slice A ops.length ac]] w fun e w' => e = .returned (rwrOf note deps ops) ∧ Below w.heap.size w w' := by
  obtain ⟨w1, hw1⟩ : ∃ w1, w1 = w.alloc (.cells #[.string note, .slice D deps.length dc, .slice A ops.length ac] 25) := ⟨_, rfl⟩
  have hb1 := Lib.hid (show Below w.heap.size w w1 by rw [hw1]; exact Wi.below_alloc _ _)
  have hP1 : PatAt w1 w.heap.size note D deps.length dc A ops.length ac := by unfold PatAt; rw [hw1]; exact heap_alloc_at _ _
  have CR := rright5_c note D dc deps A ac ops w1 (hD.below hb1.out) (hO.below hb1.out)
  have CF := fun (h : pfits note deps ops = true) W (hW : Below w.heap.size w W) => Lib.hid (rform_c note D dc deps A ac ops W (hD.below hW) (hO.below hW) h)
  obtain ⟨R, hR⟩ : ∃ R, R = rwrOf note deps ops := ⟨_, rfl⟩
  rw [← hR]
  obtain ⟨nd, hnd⟩ : ∃ nd, nd = deps.length := ⟨_, rfl⟩
  obtain ⟨no, hno⟩ : ∃ no, no = ops.length := ⟨_, rfl⟩
  rw [← hnd, ← hno] at hw1 hP1 CR CF ⊢
  replace hnd := Lib.hid hnd
  replace hno := Lib.hid hno
  obtain ⟨p0, p1, p2, _, _⟩ := blk3' hP1
  replace hP1 := Lib.hid hP1
  clear hD hO
  unfold rwrOf at hR
  cases hr : pright note deps ops with
  | false =>
    rw [hr] at CR hR
    simp only [Bool.false_eq_true, if_false] at hR
    replace CR := Lib.hid CR
    replace hR := Lib.hid hR
    clear hr CF
    go_enter Tryz.func16, Tryz.ntmps16
    go_upto_region 1 with fail
    rw [← hw1]
    replace hw1 := Lib.hid hw1
    go_wp2_with fail
    refine (CR.out).mono ?_
    rintro ev w2 ⟨rfl, hb2⟩
    replace hb2 := Lib.hid (hb1.out.trans (hb2.mono hb1.out.size))
    go_wp2_with fail
    go_ret2
    exact ⟨by rw [hR.out]; rfl, hb2.out⟩
  | true =>
    have hl := Lib.hid (show (pform note deps ops).bytes.length ≤ 65536 from pright_len hr)
    replace CF := Lib.hid (fun W hW => (CF (pright_fits hr) W hW).out)
    rw [hr] at CR hR
    simp only [if_true] at hR
    replace CR := Lib.hid CR
    have hR' : R = .tuple #[.string ⟨(pform note deps ops).bytes.toArray⟩, .int .i64 0] := hR
    replace hR := Lib.hid hR'
    clear hr hR'
    go_enter Tryz.func16, Tryz.ntmps16
    go_upto_region 1 with fail
    rw [← hw1]
    replace hw1 := Lib.hid hw1
    go_wp2_with fail
    refine (CR.out).mono ?_
    rintro ev w2 ⟨rfl, hb2⟩
    have hP2 := Lib.hid (show PatAt w2 w.heap.size note D nd dc A no ac from (hb2.block _ (heap_lt hP1.out)).trans hP1.out)
    replace hb2 := Lib.hid (hb1.out.trans (hb2.mono hb1.out.size))
    clear p0 p1 p2
    obtain ⟨p0, p1, p2, _, _⟩ := blk3' hP2.out
    go_upto_region 3 with fail
    go_wp2_with fail
    refine (CF.out w2 hb2.out).mono ?_
    rintro ev w5 ⟨q, n, c, rfl, hFK, hb5⟩
    have hV5 := FK.toFV (B := w5.heap.size) (fun b ⟨_, h⟩ => h) _ _ hFK
    have hb5H := Lib.hid (hb2.out.trans (hb5.mono hb2.out.size))
    have CW := Lib.hid (rwrite_c (pform note deps ops) _ _ _ w5 hV5 (pform_right _ _ _) (by have := pform_depth note deps ops; omega) hl.out)
    clear hFK hV5 hb5
    obtain ⟨tx, htx⟩ : ∃ tx : ByteArray, tx = ⟨(pform note deps ops).bytes.toArray⟩ := ⟨_, rfl⟩
    rw [← htx] at CW hR
    replace htx := Lib.hid htx
    go_wp2_with fail
    refine (CW.out).mono ?_
    rintro ev w6 ⟨rfl, hb6⟩
    have hb6H := Lib.hid (hb5H.out.trans (hb6.mono hb5H.out.size))
    clear hb6
    go_wp2_with fail
    go_ret2
    exact ⟨by rw [hR.out]; rfl, hb6H.out⟩
set_option maxRecDepth 100000 in
set_option maxHeartbeats 8000000 in
theorem rname5_c (note : ByteArray) (D : Option Addr) (dc : Nat) (deps : List ByteArray) (A : Option Addr) (ac : Nat) (ops : List Op) (w : World) (hD : TxAt w D dc deps) (hO : OpsAt w A ac ops) :
    Calls Tryz.prog 17 #[.agg #[.string note, .slice D deps.length dc, .slice A ops.length ac]] w fun e w' => e = .returned (rnmOf note deps ops) ∧ Below w.heap.size w w' := by
  obtain ⟨w1, hw1⟩ : ∃ w1, w1 = w.alloc (.cells #[.string note, .slice D deps.length dc, .slice A ops.length ac] 25) := ⟨_, rfl⟩
  have hb1 := Lib.hid (show Below w.heap.size w w1 by rw [hw1]; exact Wi.below_alloc _ _)
  have hP1 : w1.heap[w.heap.size]? = some (.cells #[.string note, .slice D deps.length dc, .slice A ops.length ac] 25 (0, 0)) := by rw [hw1]; exact heap_alloc_at _ _
  have CW := rwrite5_c note D dc deps A ac ops w1 (hD.below hb1.out) (hO.below hb1.out)
  obtain ⟨R, hR⟩ : ∃ R, R = rnmOf note deps ops := ⟨_, rfl⟩
  rw [← hR]
  obtain ⟨nd, hnd⟩ : ∃ nd, nd = deps.length := ⟨_, rfl⟩
  obtain ⟨no, hno⟩ : ∃ no, no = ops.length := ⟨_, rfl⟩
  rw [← hnd, ← hno] at hw1 hP1 CW ⊢
  replace hnd := Lib.hid hnd
  replace hno := Lib.hid hno
  obtain ⟨p0, p1, p2, _, _⟩ := blk3' hP1
  clear hD hO hP1
  unfold rnmOf at hR
  unfold rwrOf at CW
  cases hr : pright note deps ops with
  | false =>
    rw [hr] at CW hR
    simp only [Bool.false_eq_true, if_false] at CW hR
    replace CW := Lib.hid CW
    replace hR := Lib.hid hR
    clear hr
    go_enter Tryz.func17, Tryz.ntmps17
    go_upto_region 1 with fail
    rw [← hw1]
    replace hw1 := Lib.hid hw1
    go_wp2_with fail
    refine (CW.out).mono ?_
    rintro ev w2 ⟨rfl, hb2⟩
    replace hb2 := Lib.hid (hb1.out.trans (hb2.mono hb1.out.size))
    go_wp2_with fail
    go_ret2
    exact ⟨by rw [hR.out]; rfl, hb2.out⟩
  | true =>
    rw [hr] at CW hR
    simp only [if_true] at CW hR
    obtain ⟨s, hs⟩ : ∃ s : ByteArray, s = ⟨(pbytes note deps ops).toArray⟩ := ⟨_, rfl⟩
    rw [← hs] at CW
    have hsl : s.data.toList = pbytes note deps ops := by rw [hs]
    have hss : s.size ≤ 65536 := by rw [← toList_size, hsl]; exact pright_len hr
    have CS := fun W => Lib.hid (Ref.RSum_any s (by omega) W)
    have CH := fun W => Lib.hid (Dig.rHex_any (Sha.sha Sha.K Sha.H0 s) (by rw [Sha.sha_size]; omega) W)
    have hnm : (⟨(Sha.hexL (Sha.sha Sha.K Sha.H0 s).data.toList).toArray⟩ : ByteArray) = pname note deps ops := by
      unfold pname Sha.nameL Sha.sha
      rw [hsl, List.toList_toArray]
    rw [hnm] at CH
    generalize Sha.sha Sha.K Sha.H0 s = d at *
    replace CW := Lib.hid CW
    replace hR := Lib.hid hR
    replace hs := Lib.hid hs
    clear hr hsl hss hnm
    generalize pname note deps ops = nm at *
    go_enter Tryz.func17, Tryz.ntmps17
    go_upto_region 1 with fail
    rw [← hw1]
    replace hw1 := Lib.hid hw1
    go_wp2_with fail
    refine (CW.out).mono ?_
    rintro ev w2 ⟨rfl, hb2⟩
    replace hb2 := Lib.hid (hb1.out.trans (hb2.mono hb1.out.size))
    go_wp2_with fail
    refine ((CS w2).out).mono ?_
    rintro ev w3 ⟨rfl, ht⟩
    have hb3 := Lib.hid (hb2.out.trans ((tch_bel ht).mono hb2.out.size))
    clear ht
    go_wp2_with fail
    refine ((CH w3).out).mono ?_
    rintro ev w4 ⟨rfl, ht⟩
    have hb4 := Lib.hid (hb3.out.trans ((tch_bel ht).mono hb3.out.size))
    clear ht
    go_wp2_with fail
    go_ret2
    exact ⟨by rw [hR.out]; rfl, hb4.out⟩
end Go.Proofs.YtbiioaggilaebaaGreatDoor.Pa
set_option linter.unusedVariables false
set_option linter.unusedSimpArgs false
namespace Go.Proofs.YtbiioaggilaebaaGreatDoor.Pa
open Go Go.RowKit Go.Proofs.YtbiioaggilaebaaGreatDoorW.PrintWords Go.Proofs.YtbiioaggilaebaaGreatDoor.B Go.Proofs.YtbiioaggilaebaaGreatDoor.Tm Go.Proofs.YtbiioaggilaebaaGreatDoor.Wi
theorem infoO : ∃ i, Tryz.prog.info? 38 = some i ∧ i.zero = some (.agg #[.int .i64 0, .int .i64 0, .int .i64 0, .int .i64 0, .int .i64 0, .slice none 0 0]) ∧ i.size = 6 ∧ i.bytes = 64 := by
  have h : (Tryz.prog.info? 38).map (fun i => (i.zero, i.size, i.bytes)) = some (some (.agg #[.int .i64 0, .int .i64 0, .int .i64 0, .int .i64 0, .int .i64 0, .slice none 0 0]), 6, 64) := by kernel_rfl
  match hi : Tryz.prog.info? 38, h with
  | some i, h =>
    simp only [Option.map_some, Option.some.injEq, Prod.mk.injEq] at h
    exact ⟨i, rfl, h.1, h.2.1, h.2.2⟩
theorem TxAt.move {w w' : World} {A : Option Addr} {c : Nat} {l : List ByteArray} (h : TxAt w A c l) (hm : 0 < l.length → ∀ a, A = some a → w'.heap[a.block]? = w.heap[a.block]?) : TxAt w' A c l := by
  obtain ⟨h1, h2⟩ := h
  refine ⟨?_, h2⟩
  by_cases h0 : 0 < l.length
  · exact strs_move h1 (hm h0)
  · obtain ⟨e1, e2, _⟩ := h1
    exact ⟨e1, e2, fun h => absurd h h0⟩
def OC (ok : Nat → Prop) (w : World) : List Op → List Value → Prop
  | [], cs => cs = []
  | o :: l, cs => ∃ L c r, cs = (opCells o L c).toList ++ r ∧ TxAt w L c o.ls ∧ (0 < o.ls.length → ∀ a, L = some a → ok a.block) ∧ OC ok w l r
theorem OC.move {ok ok' : Nat → Prop} {w w' : World} (hm : ∀ b, ok b → ok' b ∧ w'.heap[b]? = w.heap[b]?) : ∀ {l : List Op} {cs : List Value}, OC ok w l cs → OC ok' w' l cs
  | [], _, h => h
  | o :: l, cs, ⟨L, c, r, h1, h2, h3, h4⟩ => ⟨L, c, r, h1, h2.move (fun h0 a ha => (hm _ (h3 h0 a ha)).2), fun h0 a ha => (hm _ (h3 h0 a ha)).1, OC.move hm h4⟩
theorem OC.len {ok : Nat → Prop} {w : World} : ∀ {l : List Op} {cs : List Value}, OC ok w l cs → cs.length = l.length * 6
  | [], cs, h => by cases h; rfl
  | o :: l, cs, ⟨L, c, r, h1, h2, h3, h4⟩ => by
    rw [h1, List.length_append, OC.len h4, List.length_cons, show (opCells o L c).toList.length = 6 from rfl]
    omega
theorem OC.append {ok : Nat → Prop} {w : World} {l' : List Op} {cs' : List Value} (h' : OC ok w l' cs') : ∀ {l : List Op} {cs : List Value}, OC ok w l cs → OC ok w (l ++ l') (cs ++ cs')
  | [], cs, h => by cases h; exact h'
  | o :: l, cs, ⟨L, c, r, h1, h2, h3, h4⟩ => ⟨L, c, r ++ cs', by rw [h1, List.append_assoc], h2, h3, OC.append h' h4⟩
theorem OC.get {ok : Nat → Prop} {w : World} : ∀ {l : List Op} {cs : List Value}, OC ok w l cs → ∀ j (h : j < l.length), ∃ L c, (∀ i, i < 6 → cs[j * 6 + i]? = (opCells l[j] L c)[i]?) ∧ TxAt w L c l[j].ls
  | o :: l, cs, ⟨L, c, r, h1, h2, h3, h4⟩, 0, _ => ⟨L, c, fun i hi => by
      rw [h1, Nat.zero_mul, Nat.zero_add, List.getElem?_append_left (by show i < 6; exact hi), Array.getElem?_toList]
      rfl, h2⟩
  | o :: l, cs, ⟨L, c, r, h1, h2, h3, h4⟩, j + 1, h => by
    obtain ⟨L', c', e1, e2⟩ := OC.get h4 j (by simpa using h)
    refine ⟨L', c', fun i hi => ?_, e2⟩
    rw [h1, List.getElem?_append_right (by show 6 ≤ _; omega), show (j + 1) * 6 + i - (opCells o L c).toList.length = j * 6 + i from by rw [show (opCells o L c).toList.length = 6 from rfl]; omega, e1 i hi]
    rfl
theorem OC.one {ok : Nat → Prop} {w : World} : ∀ {l : List Op} {cs : List Value}, OC ok w l cs → ∀ u ∈ cs, u.oneCell' = true
  | [], cs, h, u, hu => by cases h; cases hu
  | o :: l, cs, ⟨L, c, r, h1, h2, h3, h4⟩, u, hu => by
    rw [h1, List.mem_append] at hu
    rcases hu with hu | hu
    · unfold opCells at hu
      simp only [List.mem_cons, List.not_mem_nil, or_false] at hu
      rcases hu with rfl | rfl | rfl | rfl | rfl | rfl <;> rfl
    · exact OC.one h4 u hu
def OBag (base : Nat) (w : World) (v : Value) (L : List Op) : Prop :=
  ∃ cs, w.ownsRow base 38 6 v L.length cs ∧ OC (fun b => base ≤ b ∧ b < w.heap.size ∧ some b ≠ v.ownBlock) w L cs
theorem OBag.nil (base : Nat) (w : World) : OBag base w (.slice none 0 0) [] := ⟨[], ⟨rfl, .inl ⟨rfl, rfl⟩⟩, rfl⟩
theorem OBag.lt {base : Nat} {w : World} {v : Value} {L : List Op} (h : OBag base w v L) (k : Nat) (hk : v.ownBlock = some k) : base ≤ k ∧ k < w.heap.size := by
  obtain ⟨cs, h1, _⟩ := h
  have := h1.lt k hk
  exact ⟨this.1, this.2⟩
theorem OBag.keep {base : Nat} {w w' : World} {v : Value} {L : List Op} (h : OBag base w v L) (hk : ∀ b, base ≤ b → b < w.heap.size → w'.heap[b]? = w.heap[b]?) (hs : w.heap.size ≤ w'.heap.size) : OBag base w' v L := by
  have hlt := h.lt
  obtain ⟨cs, h1, h2⟩ := h
  refine ⟨cs, ?_, OC.move (fun b hb => ⟨⟨hb.1, Nat.lt_of_lt_of_le hb.2.1 hs, hb.2.2⟩, hk b hb.1 hb.2.1⟩) h2⟩
  obtain ⟨k1, k2⟩ := h1
  refine ⟨k1, ?_⟩
  rcases k2 with k2 | ⟨g, cap, cur, e1, e2, e3, e4⟩
  · exact .inl k2
  · have := hlt g (by rw [e1]; rfl)
    exact .inr ⟨g, cap, cur, e1, e2, (hk g this.1 this.2).trans e3, e4⟩
theorem OBag.below {base : Nat} {w w' : World} {v : Value} {L : List Op} (h : OBag base w v L) (hb : Below w.heap.size w w') : OBag base w' v L := h.keep (fun b _ hb' => hb.block b hb') hb.size
theorem OBag.ops {base : Nat} {w : World} {v : Value} {L : List Op} (h : OBag base w v L) (hl : L.length ≤ 140737488351232) : ∃ A c, v = .slice A L.length c ∧ OpsAt w A c L ∧ (∀ a, A = some a → base ≤ a.block) := by
  obtain ⟨cs, ⟨k1, k2⟩, h2⟩ := h
  rcases k2 with ⟨rfl, h0⟩ | ⟨g, cap, cur, rfl, e2, e3, e4, e5, e6, e7⟩
  · obtain rfl : L = [] := List.eq_nil_of_length_eq_zero h0
    exact ⟨none, 0, rfl, ⟨Nat.le_refl _, by simp, fun h => absurd h (by simp)⟩, fun a ha => (by cases ha)⟩
  · refine ⟨some ⟨g, 0, none⟩, cap, rfl, ⟨e4, hl, fun _ => ⟨g, 0, rfl, fun j hj => ?_⟩⟩, fun a ha => by cases ha; exact e2⟩
    obtain ⟨L', c', f1, f2⟩ := OC.get h2 j hj
    refine ⟨L', c', fun i hi => ?_, f2⟩
    rw [Nat.zero_add, cell_of e3, ← f1 i hi, ← e7, List.getElem?_take, if_pos (by omega), Array.getElem?_toList]
theorem ops_app {ops : Array Oper} {rest : List Oper} {o : Oper} {a : Act} {Q : Exit → Act → World → Prop} {base : Nat} {w : World} {v : Value} {L : List Op} {x : Op} {A : Option Addr} {ca : Nat} (hgd : o.guard = none) (s y : Operand) (t : TypeId)
    (ho : o.op = .call { callee := .builtin .append, args := #[s, y], argTypes := #[t, t] }) (ht : Tryz.prog.underlying t = some (.slice 38))
    (hs : a.eval s = v) (n c : Nat) (hx : a.eval y = .slice (some ⟨w.heap.size, 0, none⟩) 1 c) (hbag : OBag base w v L)
    (hT : TxAt w A ca x.ls) (hA : 0 < x.ls.length → ∀ ad, A = some ad → base ≤ ad.block ∧ ad.block < w.heap.size ∧ some ad.block ≠ v.ownBlock) (hn : L.length = n) (hb : n ≤ 1000000) (hbase : base ≤ w.heap.size)
    (h : ∀ g cap w', OBag base w' (.slice (some ⟨g, 0, none⟩) (n + 1) cap) (L ++ [x]) → Grew v w w' → wpList Tryz.prog ops Q rest (a.put o.dst (.slice (some ⟨g, 0, none⟩) (n + 1) cap)) w') :
    wpList Tryz.prog ops Q (o :: rest) a (w.alloc (.cells (opCells x A ca) 38)) := by
  subst hn
  obtain ⟨iF, hiF, hzF, hsF, hbF⟩ := infoO
  have hbag' := hbag
  obtain ⟨cs, hown, hFC⟩ := hbag
  have hOx : OC (fun b => base ≤ b ∧ b < w.heap.size ∧ some b ≠ v.ownBlock) w [x] (opCells x A ca).toList := ⟨A, ca, [], by rw [List.append_nil], hT, hA, rfl⟩
  refine wpList_append_lies _ hgd s y t ho base 38 iF _ 6 64 ht hiF hzF hsF hbF rfl (by omega) v L.length cs hs (hown.alloc _) ⟨w.heap.size, 0, none⟩ 1 c (opCells x A ca).toList hx rfl (World.news_of_block (heap_alloc_at w _)) (OC.one hOx) (by omega) (by unfold maxLen; omega) (by omega) (by simp; omega) (w.heap.size + 1) (by simp) ?_
  intro g cap w' hown' hgrow hat hlt
  have hsz := hgrow.size
  rw [size_alloc] at hsz
  have hgr : w.grownBy w' v.ownBlock := ⟨hgrow.os, hgrow.tape, hgrow.output, by omega, fun k h1 h2 => (hgrow.block k (by rw [size_alloc]; omega) h2).trans (heap_alloc_lt w _ _ h1)⟩
  refine h g cap w' ⟨cs ++ (opCells x A ca).toList, by rw [List.length_append]; exact hown', ?_⟩ ⟨hgr.size, hgr.os, hgr.tape, hgr.output, hgr.block⟩
  refine OC.move (fun b hb => ⟨⟨hb.1, Nat.lt_of_lt_of_le hb.2.1 hgr.size, ?_⟩, hgr.block b hb.2.1 hb.2.2⟩) (OC.append hOx hFC)
  show some b ≠ some g
  intro e
  injection e with e
  subst e
  rcases hat with hv | hv
  · exact hb.2.2 hv.symm
  · have := hb.2.1; omega
end Go.Proofs.YtbiioaggilaebaaGreatDoor.Pa
set_option linter.unusedVariables false
set_option linter.unusedSimpArgs false
namespace Go.Proofs.YtbiioaggilaebaaGreatDoor.Pa
open Go Go.RowKit Go.Shelf Go.Proofs.YtbiioaggilaebaaGreatDoorW.PrintWords Go.Proofs.YtbiioaggilaebaaGreatDoor.B Go.Proofs.YtbiioaggilaebaaGreatDoor.Tm Go.Proofs.YtbiioaggilaebaaGreatDoor.Wi
attribute [local go_sem] Oper.semAt_some
structure OpX where
  o : Op
  L : Option Addr
  c : Nat
def OpX.cells (x : OpX) : Array Value := opCells x.o x.L x.c
def RowX (w : World) (A : Option Addr) (zs : List OpX) : Prop :=
  (0 < zs.length → ∃ b o, A = some ⟨b, o, none⟩ ∧ ∀ j (h : j < zs.length), ∀ i, i < 6 → w.cell? ⟨b, o + j * 6 + i, none⟩ = (zs[j].cells)[i]?) ∧ ∀ z ∈ zs, TxAt w z.L z.c z.o.ls
theorem OpsAt.rowX {w : World} {A : Option Addr} {c : Nat} {l : List Op} (h : OpsAt w A c l) : ∃ zs : List OpX, zs.map OpX.o = l ∧ RowX w A zs := by
  obtain ⟨h1, h2, h3⟩ := h
  by_cases h0 : 0 < l.length
  · obtain ⟨b, o, rfl, hj⟩ := h3 h0
    have hx : ∀ j : Fin l.length, ∃ z : OpX, z.o = l[j.1] ∧ (∀ i, i < 6 → w.cell? ⟨b, o + j.1 * 6 + i, none⟩ = (z.cells)[i]?) ∧ TxAt w z.L z.c z.o.ls := fun j => by
      obtain ⟨L, cl, hc, ht⟩ := hj j.1 j.2
      exact ⟨⟨l[j.1], L, cl⟩, rfl, hc, ht⟩
    obtain ⟨f, hf⟩ := Classical.skolem.1 hx
    refine ⟨List.ofFn f, ?_, fun _ => ⟨b, o, rfl, fun j hjl i hi => ?_⟩, fun z hz => ?_⟩
    · apply List.ext_getElem
      · simp
      · intro i a1 a2
        simp [(hf ⟨i, a2⟩).1]
    · rw [List.getElem_ofFn]
      exact (hf ⟨j, by simpa using hjl⟩).2.1 i hi
    · obtain ⟨j, rfl⟩ := List.mem_ofFn.1 hz
      exact (hf j).2.2
  · obtain rfl : l = [] := List.eq_nil_of_length_eq_zero (by omega)
    exact ⟨[], rfl, fun h => absurd h (by simp), fun z hz => (by cases hz)⟩
theorem RowX.below {w w' : World} {A : Option Addr} {zs : List OpX} (h : RowX w A zs) (hb : Below w.heap.size w w') : RowX w' A zs := by
  refine ⟨fun h0 => ?_, fun z hz => (h.2 z hz).below hb⟩
  obtain ⟨b, o, e, hc⟩ := h.1 h0
  refine ⟨b, o, e, fun j hj i hi => ?_⟩
  obtain ⟨v, hv⟩ := opCells_some zs[j].o zs[j].L zs[j].c i hi
  have h1 := hc j hj i hi
  unfold OpX.cells at h1 ⊢
  rw [hv] at h1 ⊢
  exact (hb.cell (World.block_lt_of_cell? w _ h1)).trans h1
theorem RowX.lt {w : World} {A : Option Addr} {zs : List OpX} (h : RowX w A zs) (h0 : 0 < zs.length) (a : Addr) (ha : A = some a) : a.block < w.heap.size := by
  obtain ⟨b, o, e, hc⟩ := h.1 h0
  rw [ha] at e
  cases e
  obtain ⟨v, hv⟩ := opCells_some zs[0].o zs[0].L zs[0].c 0 (by omega)
  have h1 := hc 0 h0 0 (by omega)
  unfold OpX.cells at h1
  rw [hv] at h1
  exact World.block_lt_of_cell? w _ h1
def backTo (n k : Nat) : List (Fin n) := ((List.finRange n).reverse).take k
theorem backTo_succ (n k : Nat) (h : k < n) : backTo n (k + 1) = backTo n k ++ [⟨n - 1 - k, by omega⟩] := by
  unfold backTo
  rw [List.take_succ_eq_append_getElem (by simpa using h)]
  congr 2
  rw [List.getElem_reverse]
  apply Fin.ext
  simp
theorem backTo_len (n k : Nat) (h : k ≤ n) : (backTo n k).length = k := by
  unfold backTo
  rw [List.length_take, List.length_reverse, List.length_finRange]
  omega
def Kps (K : Nat → Prop) (W W' : World) : Prop := ∀ b, K b → W'.heap[b]? = W.heap[b]?
theorem Kps.refl (K : Nat → Prop) (W : World) : Kps K W W := fun _ _ => rfl
theorem Kps.trans {K : Nat → Prop} {A B C : World} (h : Kps K A B) (k : Kps K B C) : Kps K A C := fun b hb => (k b hb).trans (h b hb)
theorem Kps.cell {K : Nat → Prop} {A B : World} (h : Kps K A B) {b i : Nat} {v : Value} (hb : K b) (hc : A.cell? ⟨b, i, none⟩ = some v) : B.cell? ⟨b, i, none⟩ = some v := (World.cell?_of_block (a := ⟨b, i, none⟩) (h b hb)).trans hc
def encX (zs : List OpX) (j : Fin zs.length) : Array Value := #[.int .i64 j.1, .agg (zs[j.1].cells)]
set_option maxRecDepth 100000 in
set_option maxHeartbeats 4000000 in
theorem back1_in (F : Fence) (n : Nat) (h70 : F.fn 70) (hro : F.round = none) (hn : 1 ≤ n) (l Bs : Nat) (Kb : Nat → Prop) (b off nz cap : Nat) (zs : List OpX) (hnz : zs.length = nz) (hreach : nz * 8 ≤ 140737488351232) (hb : Kb b) (J Jx : List (Fin zs.length) → World → Prop)
    (hY : ∀ pre x W, J pre W → pre.length < zs.length → YieldAt F (n - 1) Tryz.prog l (encX zs x) W fun e W' =>
      (e = .returned (.bool true) ∧ J (pre ++ [x]) W' ∧ Kps Kb W W') ∨ (e = .returned (.bool false) ∧ Jx (pre ++ [x]) W'))
    (W : World) (hBs : W.cell? ⟨Bs, 0, none⟩ = some (.slice (some ⟨b, off, none⟩) nz cap)) (hBl : Kb Bs) (hc : ∀ j (h : j < zs.length), ∀ i, i < 6 → W.cell? ⟨b, off + j * 6 + i, none⟩ = (zs[j].cells)[i]?) (h0 : J [] W) :
    CallsIn F n Tryz.prog 70 #[.func (.yield l) #[] #[], .pointer (some ⟨Bs, 0, none⟩)] W fun e W' => (∃ v, e = .returned v) ∧
      ((∃ ys, ys = (List.finRange zs.length).reverse ∧ J ys W') ∨ (∃ pre, True ∧ Jx pre W')) := by
  refine callsIn_of_wp Tryz.func70 rfl h70 ?_ hro
  simp only [Tryz.ntmps70, List.size_toArray, List.length_cons, List.length_nil, Nat.reduceAdd, Nat.reduceSub, Array.replicate_succ, Array.replicate_zero, List.push_toArray, List.append_toArray, List.nil_append, List.cons_append]
  gi_wp2
  gi_loopw [3] (fun i wr => ∃ k : Nat, k ≤ nz ∧ i = .int .i64 ((nz : Int) - 1 - k) ∧ J (backTo zs.length k) wr ∧ Kps Kb W wr)
    (fun i _ => (intOf i + 1).toNat)
  case atStart => exact ⟨0, Nat.zero_le _, by simp, h0, Kps.refl _ _⟩
  case round =>
    obtain ⟨k, hk, rfl, hJs, hnx⟩ := hrel
    have hBs' : wr.cell? ⟨Bs, 0, none⟩ = some (.slice (some ⟨b, off, none⟩) nz cap) := hnx.cell hBl hBs
    by_cases hlt : k < nz
    · obtain ⟨j, hj⟩ : ∃ j : Nat, (j : Int) = (nz : Int) - 1 - k := ⟨nz - 1 - k, by omega⟩
      have hjn : j < zs.length := by omega
      have hjn' : j < nz := by omega
      rw [← hj]
      obtain ⟨z, hz⟩ : ∃ z, z = zs[j] := ⟨_, rfl⟩
      have hcx : ∀ i, i < 6 → wr.cell? ⟨b, off + j * 6 + i, none⟩ = (z.cells)[i]? := fun i hi => by
        rw [hz]
        obtain ⟨v, hv⟩ := opCells_some zs[j].o zs[j].L zs[j].c i hi
        have h1 := hc j hjn i hi
        unfold OpX.cells at h1 ⊢
        rw [hv] at h1
        rw [hv]
        exact hnx.cell hb h1
      obtain ⟨⟨k0, a0, m0, b0, n0, ls0⟩, L0, cl0⟩ := z
      have c0 : wr.cell? ⟨b, off + j * 6, none⟩ = some (.int .i64 k0) := hcx 0 (by omega)
      have c1 : wr.cell? ⟨b, off + j * 6 + 1, none⟩ = some (.int .i64 a0) := hcx 1 (by omega)
      have c2 : wr.cell? ⟨b, off + j * 6 + 2, none⟩ = some (.int .i64 m0) := hcx 2 (by omega)
      have c3 : wr.cell? ⟨b, off + j * 6 + 3, none⟩ = some (.int .i64 b0) := hcx 3 (by omega)
      have c4 : wr.cell? ⟨b, off + j * 6 + 4, none⟩ = some (.int .i64 n0) := hcx 4 (by omega)
      have c5 : wr.cell? ⟨b, off + j * 6 + 5, none⟩ = some (.slice L0 ls0.length cl0) := hcx 5 (by omega)
      obtain ⟨fn, tmps, assign, body, hy, hR⟩ := hY _ ⟨j, hjn⟩ wr hJs (by rw [backTo_len _ _ (by omega)]; omega)
      have hbk := Lib.hid (show backTo zs.length k ++ [⟨j, hjn⟩] = backTo zs.length (k + 1) by rw [backTo_succ _ _ (by omega)]; congr 2; apply Fin.ext; show j = zs.length - 1 - k; omega)
      rw [hbk.out] at hR
      unfold encX at hy
      simp only [← hz] at hy
      unfold OpX.cells opCells at hy
      dsimp only at hy
      replace hz := Lib.hid hz
      replace hj := Lib.hid hj
      clear hcx hJs
      have hnzH := Lib.hid hnz
      clear hnz
      gi_wp2
      refine hR.mono ?_
      rintro e W3 (⟨rfl, hJ3, hk3⟩ | ⟨rfl, hJx3⟩)
      · gi_wp2
        go_roundw
        case rel => exact ⟨k + 1, by omega, by have := hj.out; congr 1; omega, hJ3, hnx.trans hk3⟩
        case measure => simp [intOf]
      · gi_wp2
        refine bodyPost_ret (results_none rfl _ _ _) rfl ?_
        exact ⟨⟨_, rfl⟩, .inr ⟨_, trivial, hJx3⟩⟩
    · obtain rfl : k = nz := by omega
      have e1 : ((k : Int) - 1 - k) = -1 := by omega
      rw [e1]
      have hbk : backTo zs.length k = (List.finRange zs.length).reverse := by
        unfold backTo
        exact List.take_of_length_le (by rw [List.length_reverse, List.length_finRange]; omega)
      rw [hbk] at hJs
      clear hbk hnz
      gi_wp2
      go_end0
      exact ⟨⟨_, rfl⟩, .inl ⟨_, rfl, hJs⟩⟩
set_option maxRecDepth 100000 in
set_option maxHeartbeats 4000000 in
theorem back1_nil (F : Fence) (n : Nat) (h70 : F.fn 70) (hro : F.round = none) (l Bs cap : Nat) (A : Option Addr) (α : Type) (J : List α → World → Prop)
    (W : World) (hBs : W.cell? ⟨Bs, 0, none⟩ = some (.slice A 0 cap)) (h0 : J [] W) :
    CallsIn F n Tryz.prog 70 #[.func (.yield l) #[] #[], .pointer (some ⟨Bs, 0, none⟩)] W fun e W' => (∃ v, e = .returned v) ∧ J [] W' := by
  refine callsIn_of_wp Tryz.func70 rfl h70 ?_ hro
  simp only [Tryz.ntmps70, List.size_toArray, List.length_cons, List.length_nil, Nat.reduceAdd, Nat.reduceSub, Array.replicate_succ, Array.replicate_zero, List.push_toArray, List.append_toArray, List.nil_append, List.cons_append]
  gi_wp2
  gi_loopw [3] (fun i wr => i = .int .i64 (-1) ∧ J [] wr) (fun _ _ => 0)
  case atStart => exact ⟨rfl, h0⟩
  case round =>
    obtain ⟨rfl, hJs⟩ := hrel
    gi_wp2
    go_end0
    exact ⟨⟨_, rfl⟩, hJs⟩
theorem back_stops (F : Fence) (n : Nat) (h70 : F.fn 70) (hro : F.round = none) (hn : 1 ≤ n) (Bs cap : Nat) (A : Option Addr) (zs : List OpX) (Kb : Nat → Prop) (w : World) (hBs : Bs < w.heap.size) (hBl : Kb Bs)
    (hc : w.cell? ⟨Bs, 0, none⟩ = some (.slice A zs.length cap)) (hreach : zs.length * 8 ≤ 140737488351232) (hR : RowX w A zs) (hA : 0 < zs.length → ∀ a, A = some a → Kb a.block ∧ a.block < w.heap.size) :
    SeqStopsK F n Tryz.prog 70 #[.pointer (some ⟨Bs, 0, none⟩)] (encX zs) (Kps Kb) (fun ys => ys = (List.finRange zs.length).reverse) (fun _ => True) zs.length w := fun l J Jx W hW _ _ hY h0 => by
  have hc' := (hW.cell (p := ⟨Bs, 0, none⟩) hBs).trans hc
  by_cases hz : 0 < zs.length
  · obtain ⟨b, o, rfl, hcell⟩ := hR.1 hz
    have hb := hA hz _ rfl
    simp only at hb
    refine back1_in F n h70 hro hn l Bs Kb b o zs.length cap zs rfl hreach hb.1 J Jx hY W hc' hBl (fun j hj i hi => ?_) h0
    exact (hW.cell (p := ⟨b, o + j * 6 + i, none⟩) hb.2).trans (hcell j hj i hi)
  · have hz0 : zs.length = 0 := by omega
    have hnil : zs = [] := List.eq_nil_of_length_eq_zero hz0
    subst hnil
    refine (back1_nil F n h70 hro l Bs cap A _ J W hc' h0).mono ?_
    rintro e W' ⟨h1, h2⟩
    exact ⟨h1, .inl ⟨[], rfl, h2⟩⟩
end Go.Proofs.YtbiioaggilaebaaGreatDoor.Pa
