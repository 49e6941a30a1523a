/- What LawPatchInverse lean on, part r of 29: the texts PaD, PaF. -/
import Derived.Test.YtbiioaggilaebaaGreatDoorTX0
import Derived.Test.YtbiioaggilaebaaGreatDoorTXg
import Derived.Test.YtbiioaggilaebaaGreatDoorTXh
import Derived.Test.YtbiioaggilaebaaGreatDoorTXm
import Derived.Test.YtbiioaggilaebaaGreatDoorTXq
import Derived.Lib.QuoteBits
set_option linter.all false
set_option maxRecDepth 100000
set_option maxHeartbeats 16000000
namespace Go.Proofs.YtbiioaggilaebaaGreatDoor.Pa
open Go Go.RowKit YtbiioaggilaebaaGreatDoorW.PrintWords B Tm Wi
attribute [local go_sem high] ref_eqA
theorem bottom_c (w : World) : Calls Tryz.prog 119 #[] w fun e w' => e = .returned (.agg #[.int .i64 (-1), .int .i64 1]) /\ Below w.heap.size w w' := Pbottom.patch_bottom.calls (-1) 1 w rfl
theorem top_c (w : World) : Calls Tryz.prog 120 #[] w fun e w' => e = .returned (.agg #[.int .i64 (-1), .int .i64 0]) /\ Below w.heap.size w w' := Ptop.patch_top.calls (-1) 0 w rfl
theorem ret_b {x y : Bool} (h : x = y) : Ending.returned (.bool x) = .returned (.bool y) := by rw [h]
theorem six_facts {W : World} {b : Nat} {y0 y1 y2 y3 y4 y5 : Value} {t : TypeId} (h : W.heap[b]? = some (.cells #[y0, y1, y2, y3, y4, y5] t (0, 0))) :
 W.cell? ⟨b, 0, none⟩ = some y0 /\ W.cell? ⟨b, 1, none⟩ = some y1 /\ W.cell? ⟨b, 2, none⟩ = some y2 /\ W.cell? ⟨b, 3, none⟩ = some y3 /\ W.cell? ⟨b, 4, none⟩ = some y4 /\ W.cell? ⟨b, 5, none⟩ = some y5 /\ W.shape? b = some (t, 6) /\ ∀ i, W.frozen? ⟨b, i, none⟩ = false :=
 ⟨by rw [cell_of h]; rfl, by rw [cell_of h]; rfl, by rw [cell_of h]; rfl, by rw [cell_of h]; rfl, by rw [cell_of h]; rfl, by rw [cell_of h]; rfl, by simp [World.shape?, h], fr_of h⟩
theorem two_facts {W : World} {b : Nat} {y0 y1 : Value} {t : TypeId} (h : W.heap[b]? = some (.cells #[y0, y1] t (0, 0))) :
 W.cell? ⟨b, 0, none⟩ = some y0 /\ W.cell? ⟨b, 1, none⟩ = some y1 /\ W.shape? b = some (t, 2) /\ ∀ i, W.frozen? ⟨b, i, none⟩ = false :=
 ⟨by rw [cell_of h]; rfl, by rw [cell_of h]; rfl, by simp [World.shape?, h], fr_of h⟩
def tailOk (own deps a m b n : Int) (nl : Nat) : Bool := refOk own deps b n && ((!(a == b) || (!(m == n))) && ((!(a == -1) || (!(m == 1))) && ((!(b == -1) || (!(n == 0))) && decide (nl = 0))))
theorem tail_two (own deps a m b n k : Int) (ls : List ByteArray) (nl : Nat) : (twoOk own deps ⟨k, a, m, b, n, ls⟩ && decide (nl = 0)) = (refOk own deps a m && tailOk own deps a m b n nl) := by
 unfold twoOk tailOk
 have hb : ∀ x y : Int, (x == y) = decide (x = y) := fun x y => by rw [Bool.eq_iff_iff]; simp
 simp only [Bool.decide_and, decide_not, hb, Bool.and_assoc, Bool.not_and]
theorem op_c (own deps : Int) (k a m b n : Int) (ls : List ByteArray) (L : Option Addr) (cl : Nat) (w : World) (hT : TxAt w L cl ls) :
 Calls Tryz.prog 76 #[.agg #[.int .i64 own, .int .i64 deps], .agg #[.int .i64 k, .int .i64 a, .int .i64 m, .int .i64 b, .int .i64 n, .slice L ls.length cl]] w fun e w' => e = .returned (.bool (opOk own deps ⟨k, a, m, b, n, ls⟩)) /\ Below w.heap.size w w' := by
 obtain ⟨g, hg⟩ : ∃ g, g = w.heap.size := ⟨_, rfl⟩
 obtain ⟨w1, hw1⟩ : ∃ w1, w1 = w.alloc (.cells #[.int .i64 own, .int .i64 deps] 121) := ⟨_, rfl⟩
 obtain ⟨h, hh⟩ : ∃ h, h = w1.heap.size := ⟨_, rfl⟩
 obtain ⟨w2, hw2⟩ : ∃ w2, w2 = w1.alloc (.cells #[.int .i64 k, .int .i64 a, .int .i64 m, .int .i64 b, .int .i64 n, .slice L ls.length cl] 38) := ⟨_, rfl⟩
 have hh1 : h = g + 1 := by rw [hh, hw1, hg]; simp
 have hb1 : Below w.heap.size w w1 := by rw [hw1]; exact Wi.below_alloc _ _
 have hb2 : Below w.heap.size w w2 := by rw [hw2]; exact hb1.alloc hb1.size _
 have hC2 : w2.heap[g]? = some (.cells #[.int .i64 own, .int .i64 deps] 121 (0, 0)) := by
  have : w1.heap[g]? = some (.cells #[.int .i64 own, .int .i64 deps] 121 (0, 0)) := by rw [hw1, hg]; exact heap_alloc_at _ _
  rw [hw2]; exact (heap_alloc_lt _ _ _ (heap_lt this)).trans this
 have hO2 : w2.heap[h]? = some (.cells #[.int .i64 k, .int .i64 a, .int .i64 m, .int .i64 b, .int .i64 n, .slice L ls.length cl] 38 (0, 0)) := by rw [hw2, hh]; exact heap_alloc_at _ _
 have hT2 := lh (hT.below hb2)
 have CA := lh (fun W => cref_c own deps a m W)
 have CB := lh (fun W => cref_c own deps b n W)
 have CO := lh (fun W (hW : TxAt W L cl ls) => contains_odd L cl ls W hW)
 have hop := lh (show opOk own deps ⟨k, a, m, b, n, ls⟩ = (refOk own deps a m && (if k = 1 then ls.all lineOk && (decide (0 < ls.length) && tailOk own deps a m b n 0) else if k = 2 \/ k = 3 then tailOk own deps a m b n ls.length else if k = 4 \/ k = 5 then decide (0 <= a /\ b = 0 /\ n = 0 /\ ls.length = 0) else false)) by
  unfold opOk
  have h0 := tail_two own deps a m b n k ls 0
  have h1 := tail_two own deps a m b n k ls ls.length
  simp only [decide_true, Bool.and_true] at h0
  show (if k = 1 then _ else if k = 2 \/ k = 3 then _ else if k = 4 \/ k = 5 then refOk own deps a m && _ else false) = _
  split
  . rw [h0]
    generalize refOk own deps a m = r1
    generalize tailOk own deps a m b n 0 = r2
    generalize ls.all lineOk = r3
    cases r1 <;> cases r2 <;> cases r3 <;> simp
  . split
    . exact h1
    . split
      . rfl
      . simp)
 obtain ⟨lo, hlo⟩ : ∃ lo, lo = ls.all lineOk := ⟨_, rfl⟩
 obtain ⟨nl, hnl⟩ : ∃ nl, nl = ls.length := ⟨_, rfl⟩
 rw [<- hnl] at hw2 hO2 CO hop ⊢
 rw [<- hlo] at CO hop
 replace hnl := lh hnl
 replace hlo := lh hlo
 obtain ⟨R, hR0⟩ : ∃ R, R = opOk own deps ⟨k, a, m, b, n, ls⟩ := ⟨_, rfl⟩
 rw [<- hR0]
 have hR := lh (hR0.trans hop.out)
 clear hop hT hb1 hR0
 have hb2H := lh hb2
 have hC2H := lh hC2
 have hO2H := lh hO2
 have hgh := lh (show g < h by rw [hh]; rw [hw1, hg]; simp)
 have hgs := lh (show w.heap.size <= h by rw [<- hg]; exact Nat.le_of_lt hgh.out)
 obtain ⟨c0, c1, _, _⟩ := two_facts hC2
 obtain ⟨o0, o1, o2, o3, o4, o5, _, _⟩ := six_facts hO2
 clear hb2 hC2 hO2
 go_enter Tryz.func76, Tryz.ntmps76
 go_upto_region 1 with fail
 rw [<- hw1, <- hg, <- hw2]
 try rw [<- hh1]
 replace hw1 := lh hw1
 replace hw2 := lh hw2
 replace hg := lh hg
 replace hh := lh hh
 replace hh1 := lh hh1
 go_wp2_with fail
 refine (CA.out w2).mono ?_
 rintro ev w3 ⟨rfl, hb3⟩
 have hb3H := lh (hb2H.out.trans (hb3.mono hb2H.out.size))
 have hC3 := lh ((hb3.block _ (heap_lt hC2H.out)).trans hC2H.out)
 have hO3 := lh ((hb3.block _ (heap_lt hO2H.out)).trans hO2H.out)
 have hT3 := lh (hT2.out.below hb3)
 clear hb3 c0 c1 o0 o1 o2 o3 o4 o5 hC2H hO2H hT2 CA
 cases hrA : refOk own deps a m with
 | false =>
  have hrA2 := lh hrA
  clear hrA
  go_wp2_with fail
  go_ret
  exact ⟨ret_b (by rw [hR.out, hrA2.out, Bool.false_and]), hb3H.out⟩
 | true =>
  have hrA2 := lh hrA
  clear hrA
  obtain ⟨c0, c1, csh, cfz⟩ := two_facts hC3.out
  obtain ⟨o0, o1, o2, o3, o4, o5, osh, ofz⟩ := six_facts hO3.out
  by_cases k1 : k = 1
  . subst k1
    by_cases hn0 : nl = 0
    . have hz : ((nl : Int) == 0) = true := by rw [hn0]; rfl
      have hz2 := lh (show decide (0 < nl) = false by rw [hn0]; rfl)
      clear hn0
      go_wp2_with fail
      go_ret
      exact ⟨ret_b (by rw [hR.out]; simp [hrA2.out, hz2.out]), hb3H.out⟩
    . have hz : ((nl : Int) == 0) = false := by rw [beq_eq_false_iff_ne]; omega
      have hz2 := lh (show decide (0 < nl) = true by rw [decide_eq_true_eq]; omega)
      clear hn0
      go_wp2_with fail
      refine (CO.out w3 hT3.out).mono ?_
      rintro ev w4 ⟨rfl, hb4⟩
      have hb4H := lh (hb3H.out.trans (hb4.mono hb3H.out.size))
      have hC4 := lh ((hb4.block _ (heap_lt hC3.out)).trans hC3.out)
      have hO4 := lh ((hb4.block _ (heap_lt hO3.out)).trans hO3.out)
      clear hb4 c0 c1 csh cfz o0 o1 o2 o3 o4 o5 osh ofz
      obtain ⟨c0, c1, csh, cfz⟩ := two_facts hC4.out
      obtain ⟨o0, o1, o2, o3, o4, o5, osh, ofz⟩ := six_facts hO4.out
      cases hlo' : lo with
      | false =>
       have hlo2 := lh hlo'
       go_wp2_with fail
       go_ret
       exact ⟨ret_b (by rw [hR.out]; simp [hlo2.out]), hb4H.out⟩
      | true =>
       have hlo2 := lh hlo'
       obtain ⟨w5, hw5⟩ : ∃ w5, w5 = w4.setCell ⟨h, 5, none⟩ (.slice none 0 0) := ⟨_, rfl⟩
       have hC5 := lh (show w5.heap[g]? = some (.cells #[.int .i64 own, .int .i64 deps] 121 (0, 0)) by rw [hw5, heap_set_ne w4 _ _ g (by have := hgh.out; show g ≠ h; omega)]; exact hC4.out)
       have hO5 := lh (show w5.heap[h]? = some (.cells #[.int .i64 1, .int .i64 a, .int .i64 m, .int .i64 b, .int .i64 n, .slice none 0 0] 38 (0, 0)) by rw [hw5, heap_set_some hO4.out]; rfl)
       have hb5 := lh (show Below w.heap.size w w5 by rw [hw5]; exact hb4H.out.setCell hgs.out _)
       go_upto_region 13 with fail
       rw [<- hw5]
       replace hw5 := lh hw5
       clear c0 c1 csh cfz o0 o1 o2 o3 o4 o5 osh ofz
       obtain ⟨c0, c1, _, _⟩ := two_facts hC5.out
       obtain ⟨_, o1, o2, o3, o4, o5, _, _⟩ := six_facts hO5.out
       have HB := lh hb5.out
       have p0 := Lat.cell c0
       have p1 := Lat.cell c1
       have p2 := Lat.cell o1
       have p3 := Lat.cell o2
       have p4 := Lat.cell o3
       have p5 := Lat.cell o4
       have p6 := Lat.cell o5
       clear c0 c1 o1 o2 o3 o4 o5
       cases hrB : refOk own deps b n with
       | false =>
        rw [hrB] at CB
        have hrBH := lh hrB
        clear hrB
        refine wp_region_lat (by kernel_rfl) (by kernel_rfl) ?_
        repeat (go_big_quiet_step (fail))
        go_big_quiet_step ((go_at_call 114; exact lat_of (CB.out _)))
        repeat (go_big_quiet_step (fail))
        refine wpQuiet_nil ?_
        intro _ hw'
        obtain ⟨xl, hw''⟩ := hw'
        subst hw''
        have hbx := lh xl.below
        go_wp2_with fail
        go_ret
        exact ⟨ret_b (by rw [hR.out]; simp [tailOk, hrA2.out, hz2.out, hlo2.out, hrBH.out]), HB.out.trans (hbx.out.mono HB.out.size)⟩
       | true =>
        rw [hrB] at CB
        have hrBH := lh hrB
        clear hrB
        cases he1 : (!(a == b) || (!(m == n))) with
        | false =>
         have he1H := lh he1
         refine wp_region_lat (by kernel_rfl) (by kernel_rfl) ?_
         repeat (go_big_quiet_step (fail))
         go_big_quiet_step ((go_at_call 114; exact lat_of (CB.out _)))
         repeat (go_big_quiet_step (fail))
         refine wpQuiet_nil ?_
         intro _ hw'
         obtain ⟨xl, hw''⟩ := hw'
         subst hw''
         have hbx := lh xl.below
         go_wp2_with fail
         go_ret
         exact ⟨ret_b (by rw [hR.out]; simp [tailOk, hrA2.out, hz2.out, hlo2.out, hrBH.out, he1H.out]), HB.out.trans (hbx.out.mono HB.out.size)⟩
        | true =>
         have he1H := lh he1
         cases he2 : (!(a == -1) || (!(m == 1))) with
         | false =>
          have he2H := lh he2
          refine wp_region_lat (by kernel_rfl) (by kernel_rfl) ?_
          repeat (go_big_quiet_step (fail))
          go_big_quiet_step ((go_at_call 114; exact lat_of (CB.out _)))
          repeat (go_big_quiet_step (fail))
          go_big_quiet_step ((go_at_call 119; exact lat_of (bottom_c _)))
          repeat (go_big_quiet_step (fail))
          refine wpQuiet_nil ?_
          intro _ hw'
          obtain ⟨xl, hw''⟩ := hw'
          subst hw''
          have hbx := lh xl.below
          go_wp2_with fail
          go_ret
          exact ⟨ret_b (by rw [hR.out]; simp [tailOk, hrA2.out, hz2.out, hlo2.out, hrBH.out, he1H.out, he2H.out]), HB.out.trans (hbx.out.mono HB.out.size)⟩
         | true =>
          have he2H := lh he2
          cases he3 : (!(b == -1) || (!(n == 0))) with
          | false =>
           have he3H := lh he3
           refine wp_region_lat (by kernel_rfl) (by kernel_rfl) ?_
           repeat (go_big_quiet_step (fail))
           go_big_quiet_step ((go_at_call 114; exact lat_of (CB.out _)))
           repeat (go_big_quiet_step (fail))
           go_big_quiet_step ((go_at_call 119; exact lat_of (bottom_c _)))
           repeat (go_big_quiet_step (fail))
           go_big_quiet_step ((go_at_call 120; exact lat_of (top_c _)))
           repeat (go_big_quiet_step (fail))
           refine wpQuiet_nil ?_
           intro _ hw'
           obtain ⟨xl, hw''⟩ := hw'
           subst hw''
           have hbx := lh xl.below
           go_wp2_with fail
           go_ret
           exact ⟨ret_b (by rw [hR.out]; simp [tailOk, hrA2.out, hz2.out, hlo2.out, hrBH.out, he1H.out, he2H.out, he3H.out]), HB.out.trans (hbx.out.mono HB.out.size)⟩
          | true =>
           have he3H := lh he3
           refine wp_region_lat (by kernel_rfl) (by kernel_rfl) ?_
           repeat (go_big_quiet_step (fail))
           go_big_quiet_step ((go_at_call 114; exact lat_of (CB.out _)))
           repeat (go_big_quiet_step (fail))
           go_big_quiet_step ((go_at_call 119; exact lat_of (bottom_c _)))
           repeat (go_big_quiet_step (fail))
           go_big_quiet_step ((go_at_call 120; exact lat_of (top_c _)))
           repeat (go_big_quiet_step (fail))
           refine wpQuiet_nil ?_
           intro _ hw'
           obtain ⟨xl, hw''⟩ := hw'
           subst hw''
           have hbx := lh xl.below
           go_wp2_with fail
           go_ret
           exact ⟨ret_b (by rw [hR.out]; simp [tailOk, hrA2.out, hz2.out, hlo2.out, hrBH.out, he1H.out, he2H.out, he3H.out]), HB.out.trans (hbx.out.mono HB.out.size)⟩
  by_cases k2 : k = 2
  . subst k2
    clear CO
    by_cases hn0 : nl = 0
    . have hz : ((nl : Int) == 0) = true := by rw [hn0]; rfl
      have hz2 := lh (show decide (nl = 0) = true by rw [hn0]; rfl)
      clear hn0
      go_upto_region 13 with fail
      have HB := lh hb3H.out
      have p0 := Lat.cell c0
      have p1 := Lat.cell c1
      have p2 := Lat.cell o1
      have p3 := Lat.cell o2
      have p4 := Lat.cell o3
      have p5 := Lat.cell o4
      have p6 := Lat.cell o5
      clear c0 c1 o1 o2 o3 o4 o5
      cases hrB : refOk own deps b n with
      | false =>
       rw [hrB] at CB
       have hrBH := lh hrB
       clear hrB
       refine wp_region_lat (by kernel_rfl) (by kernel_rfl) ?_
       repeat (go_big_quiet_step (fail))
       go_big_quiet_step ((go_at_call 114; exact lat_of (CB.out _)))
       repeat (go_big_quiet_step (fail))
       refine wpQuiet_nil ?_
       intro _ hw'
       obtain ⟨xl, hw''⟩ := hw'
       subst hw''
       have hbx := lh xl.below
       go_wp2_with fail
       go_ret
       exact ⟨ret_b (by rw [hR.out]; simp [tailOk, hrA2.out, hz2.out, hrBH.out]), HB.out.trans (hbx.out.mono HB.out.size)⟩
      | true =>
       rw [hrB] at CB
       have hrBH := lh hrB
       clear hrB
       cases he1 : (!(a == b) || (!(m == n))) with
       | false =>
        have he1H := lh he1
        refine wp_region_lat (by kernel_rfl) (by kernel_rfl) ?_
        repeat (go_big_quiet_step (fail))
        go_big_quiet_step ((go_at_call 114; exact lat_of (CB.out _)))
        repeat (go_big_quiet_step (fail))
        refine wpQuiet_nil ?_
        intro _ hw'
        obtain ⟨xl, hw''⟩ := hw'
        subst hw''
        have hbx := lh xl.below
        go_wp2_with fail
        go_ret
        exact ⟨ret_b (by rw [hR.out]; simp [tailOk, hrA2.out, hz2.out, hrBH.out, he1H.out]), HB.out.trans (hbx.out.mono HB.out.size)⟩
       | true =>
        have he1H := lh he1
        cases he2 : (!(a == -1) || (!(m == 1))) with
        | false =>
         have he2H := lh he2
         refine wp_region_lat (by kernel_rfl) (by kernel_rfl) ?_
         repeat (go_big_quiet_step (fail))
         go_big_quiet_step ((go_at_call 114; exact lat_of (CB.out _)))
         repeat (go_big_quiet_step (fail))
         go_big_quiet_step ((go_at_call 119; exact lat_of (bottom_c _)))
         repeat (go_big_quiet_step (fail))
         refine wpQuiet_nil ?_
         intro _ hw'
         obtain ⟨xl, hw''⟩ := hw'
         subst hw''
         have hbx := lh xl.below
         go_wp2_with fail
         go_ret
         exact ⟨ret_b (by rw [hR.out]; simp [tailOk, hrA2.out, hz2.out, hrBH.out, he1H.out, he2H.out]), HB.out.trans (hbx.out.mono HB.out.size)⟩
        | true =>
         have he2H := lh he2
         cases he3 : (!(b == -1) || (!(n == 0))) with
         | false =>
          have he3H := lh he3
          refine wp_region_lat (by kernel_rfl) (by kernel_rfl) ?_
          repeat (go_big_quiet_step (fail))
          go_big_quiet_step ((go_at_call 114; exact lat_of (CB.out _)))
          repeat (go_big_quiet_step (fail))
          go_big_quiet_step ((go_at_call 119; exact lat_of (bottom_c _)))
          repeat (go_big_quiet_step (fail))
          go_big_quiet_step ((go_at_call 120; exact lat_of (top_c _)))
          repeat (go_big_quiet_step (fail))
          refine wpQuiet_nil ?_
          intro _ hw'
          obtain ⟨xl, hw''⟩ := hw'
          subst hw''
          have hbx := lh xl.below
          go_wp2_with fail
          go_ret
          exact ⟨ret_b (by rw [hR.out]; simp [tailOk, hrA2.out, hz2.out, hrBH.out, he1H.out, he2H.out, he3H.out]), HB.out.trans (hbx.out.mono HB.out.size)⟩
         | true =>
          have he3H := lh he3
          refine wp_region_lat (by kernel_rfl) (by kernel_rfl) ?_
          repeat (go_big_quiet_step (fail))
          go_big_quiet_step ((go_at_call 114; exact lat_of (CB.out _)))
          repeat (go_big_quiet_step (fail))
          go_big_quiet_step ((go_at_call 119; exact lat_of (bottom_c _)))
          repeat (go_big_quiet_step (fail))
          go_big_quiet_step ((go_at_call 120; exact lat_of (top_c _)))
          repeat (go_big_quiet_step (fail))
          refine wpQuiet_nil ?_
          intro _ hw'
          obtain ⟨xl, hw''⟩ := hw'
          subst hw''
          have hbx := lh xl.below
          go_wp2_with fail
          go_ret
          exact ⟨ret_b (by rw [hR.out]; simp [tailOk, hrA2.out, hz2.out, hrBH.out, he1H.out, he2H.out, he3H.out]), HB.out.trans (hbx.out.mono HB.out.size)⟩
    . have hz : ((nl : Int) == 0) = false := by rw [beq_eq_false_iff_ne]; omega
      have hz2 := lh (show decide (nl = 0) = false by rw [decide_eq_false_iff_not]; exact hn0)
      clear hn0
      go_upto_region 13 with fail
      have HB := lh hb3H.out
      have p0 := Lat.cell c0
      have p1 := Lat.cell c1
      have p2 := Lat.cell o1
      have p3 := Lat.cell o2
      have p4 := Lat.cell o3
      have p5 := Lat.cell o4
      have p6 := Lat.cell o5
      clear c0 c1 o1 o2 o3 o4 o5
      cases hrB : refOk own deps b n with
      | false =>
       rw [hrB] at CB
       have hrBH := lh hrB
       clear hrB
       refine wp_region_lat (by kernel_rfl) (by kernel_rfl) ?_
       repeat (go_big_quiet_step (fail))
       go_big_quiet_step ((go_at_call 114; exact lat_of (CB.out _)))
       repeat (go_big_quiet_step (fail))
       refine wpQuiet_nil ?_
       intro _ hw'
       obtain ⟨xl, hw''⟩ := hw'
       subst hw''
       have hbx := lh xl.below
       go_wp2_with fail
       go_ret
       exact ⟨ret_b (by rw [hR.out]; simp [tailOk, hrA2.out, hz2.out, hrBH.out]), HB.out.trans (hbx.out.mono HB.out.size)⟩
      | true =>
       rw [hrB] at CB
       have hrBH := lh hrB
       clear hrB
       cases he1 : (!(a == b) || (!(m == n))) with
       | false =>
        have he1H := lh he1
        refine wp_region_lat (by kernel_rfl) (by kernel_rfl) ?_
        repeat (go_big_quiet_step (fail))
        go_big_quiet_step ((go_at_call 114; exact lat_of (CB.out _)))
        repeat (go_big_quiet_step (fail))
        refine wpQuiet_nil ?_
        intro _ hw'
        obtain ⟨xl, hw''⟩ := hw'
        subst hw''
        have hbx := lh xl.below
        go_wp2_with fail
        go_ret
        exact ⟨ret_b (by rw [hR.out]; simp [tailOk, hrA2.out, hz2.out, hrBH.out, he1H.out]), HB.out.trans (hbx.out.mono HB.out.size)⟩
       | true =>
        have he1H := lh he1
        cases he2 : (!(a == -1) || (!(m == 1))) with
        | false =>
         have he2H := lh he2
         refine wp_region_lat (by kernel_rfl) (by kernel_rfl) ?_
         repeat (go_big_quiet_step (fail))
         go_big_quiet_step ((go_at_call 114; exact lat_of (CB.out _)))
         repeat (go_big_quiet_step (fail))
         go_big_quiet_step ((go_at_call 119; exact lat_of (bottom_c _)))
         repeat (go_big_quiet_step (fail))
         refine wpQuiet_nil ?_
         intro _ hw'
         obtain ⟨xl, hw''⟩ := hw'
         subst hw''
         have hbx := lh xl.below
         go_wp2_with fail
         go_ret
         exact ⟨ret_b (by rw [hR.out]; simp [tailOk, hrA2.out, hz2.out, hrBH.out, he1H.out, he2H.out]), HB.out.trans (hbx.out.mono HB.out.size)⟩
        | true =>
         have he2H := lh he2
         cases he3 : (!(b == -1) || (!(n == 0))) with
         | false =>
          have he3H := lh he3
          refine wp_region_lat (by kernel_rfl) (by kernel_rfl) ?_
          repeat (go_big_quiet_step (fail))
          go_big_quiet_step ((go_at_call 114; exact lat_of (CB.out _)))
          repeat (go_big_quiet_step (fail))
          go_big_quiet_step ((go_at_call 119; exact lat_of (bottom_c _)))
          repeat (go_big_quiet_step (fail))
          go_big_quiet_step ((go_at_call 120; exact lat_of (top_c _)))
          repeat (go_big_quiet_step (fail))
          refine wpQuiet_nil ?_
          intro _ hw'
          obtain ⟨xl, hw''⟩ := hw'
          subst hw''
          have hbx := lh xl.below
          go_wp2_with fail
          go_ret
          exact ⟨ret_b (by rw [hR.out]; simp [tailOk, hrA2.out, hz2.out, hrBH.out, he1H.out, he2H.out, he3H.out]), HB.out.trans (hbx.out.mono HB.out.size)⟩
         | true =>
          have he3H := lh he3
          refine wp_region_lat (by kernel_rfl) (by kernel_rfl) ?_
          repeat (go_big_quiet_step (fail))
          go_big_quiet_step ((go_at_call 114; exact lat_of (CB.out _)))
          repeat (go_big_quiet_step (fail))
          go_big_quiet_step ((go_at_call 119; exact lat_of (bottom_c _)))
          repeat (go_big_quiet_step (fail))
          go_big_quiet_step ((go_at_call 120; exact lat_of (top_c _)))
          repeat (go_big_quiet_step (fail))
          refine wpQuiet_nil ?_
          intro _ hw'
          obtain ⟨xl, hw''⟩ := hw'
          subst hw''
          have hbx := lh xl.below
          go_wp2_with fail
          go_ret
          exact ⟨ret_b (by rw [hR.out]; simp [tailOk, hrA2.out, hz2.out, hrBH.out, he1H.out, he2H.out, he3H.out]), HB.out.trans (hbx.out.mono HB.out.size)⟩
  by_cases k3 : k = 3
  . subst k3
    clear CO
    by_cases hn0 : nl = 0
    . have hz : ((nl : Int) == 0) = true := by rw [hn0]; rfl
      have hz2 := lh (show decide (nl = 0) = true by rw [hn0]; rfl)
      clear hn0
      go_upto_region 13 with fail
      have HB := lh hb3H.out
      have p0 := Lat.cell c0
      have p1 := Lat.cell c1
      have p2 := Lat.cell o1
      have p3 := Lat.cell o2
      have p4 := Lat.cell o3
      have p5 := Lat.cell o4
      have p6 := Lat.cell o5
      clear c0 c1 o1 o2 o3 o4 o5
      cases hrB : refOk own deps b n with
      | false =>
       rw [hrB] at CB
       have hrBH := lh hrB
       clear hrB
       refine wp_region_lat (by kernel_rfl) (by kernel_rfl) ?_
       repeat (go_big_quiet_step (fail))
       go_big_quiet_step ((go_at_call 114; exact lat_of (CB.out _)))
       repeat (go_big_quiet_step (fail))
       refine wpQuiet_nil ?_
       intro _ hw'
       obtain ⟨xl, hw''⟩ := hw'
       subst hw''
       have hbx := lh xl.below
       go_wp2_with fail
       go_ret
       exact ⟨ret_b (by rw [hR.out]; simp [tailOk, hrA2.out, hz2.out, hrBH.out]), HB.out.trans (hbx.out.mono HB.out.size)⟩
      | true =>
       rw [hrB] at CB
       have hrBH := lh hrB
       clear hrB
       cases he1 : (!(a == b) || (!(m == n))) with
       | false =>
        have he1H := lh he1
        refine wp_region_lat (by kernel_rfl) (by kernel_rfl) ?_
        repeat (go_big_quiet_step (fail))
        go_big_quiet_step ((go_at_call 114; exact lat_of (CB.out _)))
        repeat (go_big_quiet_step (fail))
        refine wpQuiet_nil ?_
        intro _ hw'
        obtain ⟨xl, hw''⟩ := hw'
        subst hw''
        have hbx := lh xl.below
        go_wp2_with fail
        go_ret
        exact ⟨ret_b (by rw [hR.out]; simp [tailOk, hrA2.out, hz2.out, hrBH.out, he1H.out]), HB.out.trans (hbx.out.mono HB.out.size)⟩
       | true =>
        have he1H := lh he1
        cases he2 : (!(a == -1) || (!(m == 1))) with
        | false =>
         have he2H := lh he2
         refine wp_region_lat (by kernel_rfl) (by kernel_rfl) ?_
         repeat (go_big_quiet_step (fail))
         go_big_quiet_step ((go_at_call 114; exact lat_of (CB.out _)))
         repeat (go_big_quiet_step (fail))
         go_big_quiet_step ((go_at_call 119; exact lat_of (bottom_c _)))
         repeat (go_big_quiet_step (fail))
         refine wpQuiet_nil ?_
         intro _ hw'
         obtain ⟨xl, hw''⟩ := hw'
         subst hw''
         have hbx := lh xl.below
         go_wp2_with fail
         go_ret
         exact ⟨ret_b (by rw [hR.out]; simp [tailOk, hrA2.out, hz2.out, hrBH.out, he1H.out, he2H.out]), HB.out.trans (hbx.out.mono HB.out.size)⟩
        | true =>
         have he2H := lh he2
         cases he3 : (!(b == -1) || (!(n == 0))) with
         | false =>
          have he3H := lh he3
          refine wp_region_lat (by kernel_rfl) (by kernel_rfl) ?_
          repeat (go_big_quiet_step (fail))
          go_big_quiet_step ((go_at_call 114; exact lat_of (CB.out _)))
          repeat (go_big_quiet_step (fail))
          go_big_quiet_step ((go_at_call 119; exact lat_of (bottom_c _)))
          repeat (go_big_quiet_step (fail))
          go_big_quiet_step ((go_at_call 120; exact lat_of (top_c _)))
          repeat (go_big_quiet_step (fail))
          refine wpQuiet_nil ?_
          intro _ hw'
          obtain ⟨xl, hw''⟩ := hw'
          subst hw''
          have hbx := lh xl.below
          go_wp2_with fail
          go_ret
          exact ⟨ret_b (by rw [hR.out]; simp [tailOk, hrA2.out, hz2.out, hrBH.out, he1H.out, he2H.out, he3H.out]), HB.out.trans (hbx.out.mono HB.out.size)⟩
         | true =>
          have he3H := lh he3
          refine wp_region_lat (by kernel_rfl) (by kernel_rfl) ?_
          repeat (go_big_quiet_step (fail))
          go_big_quiet_step ((go_at_call 114; exact lat_of (CB.out _)))
          repeat (go_big_quiet_step (fail))
          go_big_quiet_step ((go_at_call 119; exact lat_of (bottom_c _)))
          repeat (go_big_quiet_step (fail))
          go_big_quiet_step ((go_at_call 120; exact lat_of (top_c _)))
          repeat (go_big_quiet_step (fail))
          refine wpQuiet_nil ?_
          intro _ hw'
          obtain ⟨xl, hw''⟩ := hw'
          subst hw''
          have hbx := lh xl.below
          go_wp2_with fail
          go_ret
          exact ⟨ret_b (by rw [hR.out]; simp [tailOk, hrA2.out, hz2.out, hrBH.out, he1H.out, he2H.out, he3H.out]), HB.out.trans (hbx.out.mono HB.out.size)⟩
    . have hz : ((nl : Int) == 0) = false := by rw [beq_eq_false_iff_ne]; omega
      have hz2 := lh (show decide (nl = 0) = false by rw [decide_eq_false_iff_not]; exact hn0)
      clear hn0
      go_upto_region 13 with fail
      have HB := lh hb3H.out
      have p0 := Lat.cell c0
      have p1 := Lat.cell c1
      have p2 := Lat.cell o1
      have p3 := Lat.cell o2
      have p4 := Lat.cell o3
      have p5 := Lat.cell o4
      have p6 := Lat.cell o5
      clear c0 c1 o1 o2 o3 o4 o5
      cases hrB : refOk own deps b n with
      | false =>
       rw [hrB] at CB
       have hrBH := lh hrB
       clear hrB
       refine wp_region_lat (by kernel_rfl) (by kernel_rfl) ?_
       repeat (go_big_quiet_step (fail))
       go_big_quiet_step ((go_at_call 114; exact lat_of (CB.out _)))
       repeat (go_big_quiet_step (fail))
       refine wpQuiet_nil ?_
       intro _ hw'
       obtain ⟨xl, hw''⟩ := hw'
       subst hw''
       have hbx := lh xl.below
       go_wp2_with fail
       go_ret
       exact ⟨ret_b (by rw [hR.out]; simp [tailOk, hrA2.out, hz2.out, hrBH.out]), HB.out.trans (hbx.out.mono HB.out.size)⟩
      | true =>
       rw [hrB] at CB
       have hrBH := lh hrB
       clear hrB
       cases he1 : (!(a == b) || (!(m == n))) with
       | false =>
        have he1H := lh he1
        refine wp_region_lat (by kernel_rfl) (by kernel_rfl) ?_
        repeat (go_big_quiet_step (fail))
        go_big_quiet_step ((go_at_call 114; exact lat_of (CB.out _)))
        repeat (go_big_quiet_step (fail))
        refine wpQuiet_nil ?_
        intro _ hw'
        obtain ⟨xl, hw''⟩ := hw'
        subst hw''
        have hbx := lh xl.below
        go_wp2_with fail
        go_ret
        exact ⟨ret_b (by rw [hR.out]; simp [tailOk, hrA2.out, hz2.out, hrBH.out, he1H.out]), HB.out.trans (hbx.out.mono HB.out.size)⟩
       | true =>
        have he1H := lh he1
        cases he2 : (!(a == -1) || (!(m == 1))) with
        | false =>
         have he2H := lh he2
         refine wp_region_lat (by kernel_rfl) (by kernel_rfl) ?_
         repeat (go_big_quiet_step (fail))
         go_big_quiet_step ((go_at_call 114; exact lat_of (CB.out _)))
         repeat (go_big_quiet_step (fail))
         go_big_quiet_step ((go_at_call 119; exact lat_of (bottom_c _)))
         repeat (go_big_quiet_step (fail))
         refine wpQuiet_nil ?_
         intro _ hw'
         obtain ⟨xl, hw''⟩ := hw'
         subst hw''
         have hbx := lh xl.below
         go_wp2_with fail
         go_ret
         exact ⟨ret_b (by rw [hR.out]; simp [tailOk, hrA2.out, hz2.out, hrBH.out, he1H.out, he2H.out]), HB.out.trans (hbx.out.mono HB.out.size)⟩
        | true =>
         have he2H := lh he2
         cases he3 : (!(b == -1) || (!(n == 0))) with
         | false =>
          have he3H := lh he3
          refine wp_region_lat (by kernel_rfl) (by kernel_rfl) ?_
          repeat (go_big_quiet_step (fail))
          go_big_quiet_step ((go_at_call 114; exact lat_of (CB.out _)))
          repeat (go_big_quiet_step (fail))
          go_big_quiet_step ((go_at_call 119; exact lat_of (bottom_c _)))
          repeat (go_big_quiet_step (fail))
          go_big_quiet_step ((go_at_call 120; exact lat_of (top_c _)))
          repeat (go_big_quiet_step (fail))
          refine wpQuiet_nil ?_
          intro _ hw'
          obtain ⟨xl, hw''⟩ := hw'
          subst hw''
          have hbx := lh xl.below
          go_wp2_with fail
          go_ret
          exact ⟨ret_b (by rw [hR.out]; simp [tailOk, hrA2.out, hz2.out, hrBH.out, he1H.out, he2H.out, he3H.out]), HB.out.trans (hbx.out.mono HB.out.size)⟩
         | true =>
          have he3H := lh he3
          refine wp_region_lat (by kernel_rfl) (by kernel_rfl) ?_
          repeat (go_big_quiet_step (fail))
          go_big_quiet_step ((go_at_call 114; exact lat_of (CB.out _)))
          repeat (go_big_quiet_step (fail))
          go_big_quiet_step ((go_at_call 119; exact lat_of (bottom_c _)))
          repeat (go_big_quiet_step (fail))
          go_big_quiet_step ((go_at_call 120; exact lat_of (top_c _)))
          repeat (go_big_quiet_step (fail))
          refine wpQuiet_nil ?_
          intro _ hw'
          obtain ⟨xl, hw''⟩ := hw'
          subst hw''
          have hbx := lh xl.below
          go_wp2_with fail
          go_ret
          exact ⟨ret_b (by rw [hR.out]; simp [tailOk, hrA2.out, hz2.out, hrBH.out, he1H.out, he2H.out, he3H.out]), HB.out.trans (hbx.out.mono HB.out.size)⟩
  by_cases k45 : k = 4 \/ k = 5
  . have hfin := lh (show (refOk own deps a m && (if k = 1 then lo && (decide (0 < nl) && tailOk own deps a m b n 0) else if k = 2 \/ k = 3 then tailOk own deps a m b n nl else if k = 4 \/ k = 5 then decide (0 <= a /\ b = 0 /\ n = 0 /\ nl = 0) else false)) = decide (0 <= a /\ b = 0 /\ n = 0 /\ nl = 0) by
     rw [hrA2.out, if_neg k1, if_neg (by omega), if_pos k45, Bool.true_and])
    clear k1 k2 k3
    by_cases ha : 0 <= a
    . cases hz : (b == 0 && n == 0) with
      | false =>
       have hz2 := lh (show ¬ (b = 0 /\ n = 0) by intro ⟨e1, e2⟩; rw [e1, e2] at hz; cases hz)
       rcases k45 with rfl | rfl
       all_goals go_wp2_with fail
       all_goals go_ret
       all_goals exact ⟨ret_b (by rw [hR.out, hfin.out]; symm; rw [decide_eq_false_iff_not]; have := hz2.out; omega), hb3H.out⟩
      | true =>
       have hz2 := lh (show b = 0 /\ n = 0 by simpa using hz)
       rcases k45 with rfl | rfl
       all_goals go_wp2_with fail
       all_goals go_ret
       all_goals exact ⟨ret_b (by rw [hR.out, hfin.out, Bool.eq_iff_iff]; have := hz2.out; have := ha; simp; omega), hb3H.out⟩
    . have hz2 := lh ha
      rcases k45 with rfl | rfl
      all_goals go_wp2_with fail
      all_goals go_ret
      all_goals exact ⟨ret_b (by rw [hR.out, hfin.out]; symm; rw [decide_eq_false_iff_not]; have := hz2.out; omega), hb3H.out⟩
  . have hfin := lh (show (refOk own deps a m && (if k = 1 then lo && (decide (0 < nl) && tailOk own deps a m b n 0) else if k = 2 \/ k = 3 then tailOk own deps a m b n nl else if k = 4 \/ k = 5 then decide (0 <= a /\ b = 0 /\ n = 0 /\ nl = 0) else false)) = false by
     rw [hrA2.out, if_neg k1, if_neg (by omega), if_neg k45]; rfl)
    have e1 : (k == 1) = false := by rw [beq_eq_false_iff_ne]; exact k1
    have e2 : (k == 2) = false := by rw [beq_eq_false_iff_ne]; exact k2
    have e3 : (k == 3) = false := by rw [beq_eq_false_iff_ne]; exact k3
    have e4 : (k == 4) = false := by rw [beq_eq_false_iff_ne]; omega
    have e5 : (k == 5) = false := by rw [beq_eq_false_iff_ne]; omega
    clear k1 k2 k3 k45
    go_wp2_with fail
    go_ret
    exact ⟨ret_b (by rw [hR.out, hfin.out]), hb3H.out⟩
end Go.Proofs.YtbiioaggilaebaaGreatDoor.Pa
namespace Go.Proofs.YtbiioaggilaebaaGreatDoor.Pa
open Go Go.RowKit YtbiioaggilaebaaGreatDoorW.PrintWords B Tm Wi Dig
theorem pfits_big {note : ByteArray} {deps : List ByteArray} {ops : List Op} (h : ¬ (note.size <= 100 /\ deps.length <= 64 /\ ops.length <= 400)) : pfits note deps ops = false := by
 unfold pfits
 rw [decide_eq_false h, Bool.false_and]
theorem pfits_dep {note : ByteArray} {deps : List ByteArray} {ops : List Op} {k : Nat} (hk : k < deps.length) (h : okAt deps k = false) : pfits note deps ops = false := by
 unfold pfits depsOk
 rw [List.all_eq_false.2 ⟨k, List.mem_range.2 hk, by rw [h]; simp⟩, Bool.false_and, Bool.and_false]
theorem pfits_opb {note : ByteArray} {deps : List ByteArray} {ops : List Op} {k : Nat} {o : Op} (hk : ops[k]? = some o) (h : opOk (made (ops.take k)) deps.length o = false) : pfits note deps ops = false := by
 unfold pfits opsOk
 have hl := (List.getElem?_eq_some_iff.1 hk).1
 rw [List.all_eq_false.2 ⟨k, List.mem_range.2 hl, by rw [hk]; simp [h]⟩, Bool.false_and, Bool.and_false, Bool.and_false]
theorem pfits_good {note : ByteArray} {deps : List ByteArray} {ops : List Op} (h0 : note.size <= 100 /\ deps.length <= 64 /\ ops.length <= 400) (h1 : ∀ j, j < deps.length -> okAt deps j = true) (h2 : ∀ j o, ops[j]? = some o -> opOk (made (ops.take j)) deps.length o = true) :
 pfits note deps ops = decide (made ops <= 300) := by
 unfold pfits depsOk opsOk
 rw [decide_eq_true h0, List.all_eq_true.2 (fun j hj => h1 j (List.mem_range.1 hj)), List.all_eq_true.2 (fun j hj => ?_), Bool.true_and, Bool.true_and, Bool.true_and]
 cases ho : ops[j]? with
 | none => rfl
 | some o => exact h2 j o ho
theorem made_step (l : List Op) (k : Nat) (o : Op) (h : l[k]? = some o) : made (l.take (k + 1)) = made (l.take k) + mk1 o := by
 rw [List.take_add_one, h, Option.toList_some, made_append, made_cons, made_nil, Nat.add_zero]
theorem made_bound (c : Nat) : ∀ l : List Op, (∀ o ∈ l, o.ls.length <= c) -> made l <= l.length * c
 | [], _ => by rw [made_nil]; omega
 | o :: l, h => by
  rw [made_cons, List.length_cons, Nat.add_mul]
  have h1 := h o (by simp)
  have h2 := made_bound c l (fun x hx => h x (by simp [hx]))
  have h3 : mk1 o <= o.ls.length := by unfold mk1; split <;> omega
  omega
theorem blk3' {W : World} {b : Nat} {y0 y1 y2 : Value} {t : TypeId} (h : W.heap[b]? = some (.cells #[y0, y1, y2] t (0, 0))) :
 W.cell? ⟨b, 0, none⟩ = some y0 /\ W.cell? ⟨b, 1, none⟩ = some y1 /\ W.cell? ⟨b, 2, none⟩ = some y2 /\ W.shape? b = some (t, 3) /\ ∀ i, W.frozen? ⟨b, i, none⟩ = false :=
 ⟨by rw [cell_of h]; rfl, by rw [cell_of h]; rfl, by rw [cell_of h]; rfl, by simp [World.shape?, h], fr_of h⟩
theorem fits_c (note : ByteArray) (D : Option Addr) (dc : Nat) (deps : List ByteArray) (A : Option Addr) (ac : Nat) (ops : List Op) (w : World) (hD : TxAt w D dc deps) (hO : OpsAt w A ac ops) :
 Calls Tryz.prog 40 #[.agg #[.string note, .slice D deps.length dc, .slice A ops.length ac]] w fun e w' => e = .returned (.bool (pfits note deps ops)) /\ Below w.heap.size w w' := by
 obtain ⟨g, hg⟩ : ∃ g, g = w.heap.size := ⟨_, rfl⟩
 obtain ⟨w1, hw1⟩ : ∃ w1, w1 = w.alloc (.cells #[.string note, .slice D deps.length dc, .slice A ops.length ac] 25) := ⟨_, rfl⟩
 have hb1 := lh (show Below w.heap.size w w1 by rw [hw1]; exact Wi.below_alloc _ _)
 have hP1 := lh (show w1.heap[g]? = some (.cells #[.string note, .slice D deps.length dc, .slice A ops.length ac] 25 (0, 0)) by rw [hw1, hg]; exact heap_alloc_at _ _)
 obtain ⟨R, hR⟩ : ∃ R, R = pfits note deps ops := ⟨_, rfl⟩
 rw [<- hR]
 have hDH := lh hD
 have hOH := lh hO
 obtain ⟨_, hdc, hdl, hds⟩ := hD
 obtain ⟨hac, hal, _⟩ := hO
 obtain ⟨nd, hnd⟩ : ∃ nd, nd = deps.length := ⟨_, rfl⟩
 obtain ⟨no, hno⟩ : ∃ no, no = ops.length := ⟨_, rfl⟩
 rw [<- hnd] at hw1 hP1 hdc hdl ⊢
 rw [<- hno] at hw1 hP1 hac hal ⊢
 have hdsH := lh hds
 have hdcH := lh hdc
 have hacH := lh hac
 have hgw := lh (show w.heap.size <= g by rw [hg]; exact Nat.le_refl _)
 clear hds
 replace hR := lh hR
 replace hnd := lh hnd
 replace hno := lh hno
 obtain ⟨p0, p1, p2, _, _⟩ := blk3' hP1.out
 go_enter Tryz.func40, Tryz.ntmps40
 go_upto_region 1 with fail
 rw [<- hw1, <- hg]
 replace hw1 := lh hw1
 replace hg := lh hg
 by_cases s1 : (100 : Int) < (note.size : Int)
 . have hf := lh (pfits_big (note := note) (deps := deps) (ops := ops) (by omega))
   go_wp2_with fail
   go_ret
   exact ⟨ret_b (by rw [hR.out, hf.out]), hb1.out⟩
 by_cases s2 : (64 : Int) < (nd : Int)
 . have hf := lh (pfits_big (note := note) (deps := deps) (ops := ops) (by have := hnd.out; omega))
   go_wp2_with fail
   go_ret
   exact ⟨ret_b (by rw [hR.out, hf.out]), hb1.out⟩
 by_cases s3 : (400 : Int) < (no : Int)
 . have hf := lh (pfits_big (note := note) (deps := deps) (ops := ops) (by have := hno.out; omega))
   go_wp2_with fail
   go_ret
   exact ⟨ret_b (by rw [hR.out, hf.out]), hb1.out⟩
 have hsizes := lh (show note.size <= 100 /\ deps.length <= 64 /\ ops.length <= 400 by have := hnd.out; have := hno.out; omega)
 have hnd64 : nd <= 64 := by omega
 have hno4 : no <= 400 := by omega
 go_upto_region 4 with fail
 clear s1 s2 s3
 go_loopg [27] nd (fun g' i W => ∃ k : Nat, g' = nd - k /\ k <= nd /\ i = .int .i64 k /\ (∀ j, j < k -> okAt deps j = true) /\ Below w.heap.size w W /\ W.heap[g]? = some (.cells #[.string note, .slice D nd dc, .slice A no ac] 25 (0, 0)))
 case atStart => exact ⟨0, rfl, by omega, rfl, fun j hj => absurd hj (by omega), hb1.out, hP1.out⟩
 case round =>
  clear p0 p1 p2
  obtain ⟨k, hg', hk, rfl, hok, hb, hP⟩ := hrel
  subst hg'
  have hPH := lh hP
  have hbH := lh hb
  obtain ⟨p0, p1, p2, _, _⟩ := blk3' hP
  by_cases hkn : k < nd
  . have hki : (k : Int) < (nd : Int) := by omega
    have hkl : k < deps.length := by rw [<- hnd.out]; exact hkn
    obtain ⟨b, o, hDe, hcell⟩ := str_cell (Kd.C_below hDH.out.1 hb) k hkl
    subst hDe
    have hx := hdsH.out _ (getD_mem' deps k ByteArray.empty hkl)
    have CR := fun W => lh (right_any (deps.getD k ByteArray.empty) hx W)
    have hok2 : okAt deps k = (rightL (deps.getD k ByteArray.empty).data.toList && (decide (k = 0) || Op.bytesLess (deps.getD (k - 1) ByteArray.empty).toList (deps.getD k ByteArray.empty).toList)) := rfl
    have hbad := lh (pfits_dep (note := note) (ops := ops) hkl)
    have hprev := lh (fun (W : World) (h : Below w.heap.size w W) (h1 : k - 1 < deps.length) => str_cell (Kd.C_below hDH.out.1 h) (k - 1) h1)
    generalize deps.getD k ByteArray.empty = x at *
    generalize hrx : rightL x.data.toList = rx at *
    clear hrx hb hP
    have hokH := lh hok
    clear hok
    cases rx with
    | false =>
     have hbd := lh (hbad.out hok2)
     clear hbad hok2
     go_wp2_with fail
     refine ((CR _).out).mono ?_
     rintro ev w2 ⟨rfl, hb2⟩
     replace hb2 := lh hb2
     go_wp2_with fail
     go_ret
     exact ⟨ret_b (by rw [hR.out, hbd.out]), hbH.out.trans (hb2.out.mono hbH.out.size)⟩
    | true =>
     by_cases hk0 : k = 0
     . subst hk0
       rw [Nat.add_zero] at hcell
       have hki0 : ¬ (0 : Int) < ((0 : Nat) : Int) := by omega
       have hko : okAt deps 0 = true := by rw [hok2]; rfl
       have hkoH := lh hko
       clear hko hok2 hbad
       go_wp2_with fail
       refine ((CR _).out).mono ?_
       rintro ev w2 ⟨rfl, hb2⟩
       have hP2 := lh ((hb2.block _ (heap_lt hPH.out)).trans hPH.out)
       replace hb2 := lh hb2
       go_wp2_with fail
       go_roundg (nd - 1)
       case measure => omega
       case rel => exact ⟨1, rfl, by omega, by go_num, fun j hj => by rw [show j = 0 from by omega]; exact hkoH.out, hbH.out.trans (hb2.out.mono hbH.out.size), hP2.out⟩
     . have hki0 : (0 : Int) < (k : Int) := by omega
       have hkw : IntKind.i64.wrap ((k : Int) - 1) = ((k - 1 : Nat) : Int) := by rw [show (k : Int) - 1 = ((k - 1 : Nat) : Int) from by omega]; exact Lib.wrap_i64_small _ (by omega)
       have hk1 : ((k - 1 : Nat) : Int) < (nd : Int) := by omega
       have hkn1 : k - 1 < deps.length := by omega
       generalize deps.getD (k - 1) ByteArray.empty = y at *
       rw [decide_eq_false hk0, Bool.false_or, Bool.true_and] at hok2
       obtain ⟨lt, hlt⟩ : ∃ lt, lt = Op.bytesLess y.toList x.toList := ⟨_, rfl⟩
       rw [<- hlt] at hok2
       replace hlt := lh hlt
       have hok2H := lh hok2
       clear hok2
       go_wp2_with fail
       refine ((CR _).out).mono ?_
       rintro ev w2 ⟨rfl, hb2⟩
       have hc2 := hprev.out w2 (hbH.out.trans (hb2.mono hbH.out.size)) hkn1
       obtain ⟨b1, o1, hA, hcell1⟩ := hc2
       injection hA with hA
       injection hA with hA1 hA2 _
       subst hA1 hA2
       have hP2 := lh ((hb2.block _ (heap_lt hPH.out)).trans hPH.out)
       replace hb2 := lh hb2
       clear p0 p1 p2
       obtain ⟨p0, p1, p2, _, _⟩ := blk3' hP2.out
       cases lt with
       | true =>
        have hlt2 : Op.bytesLess y.toList x.toList = true := hlt.out.symm
        have hle : (Op.bytesLess x.toList y.toList || x.toList == y.toList) = false := by rw [le_lt, hlt2]; rfl
        clear hlt2
        go_wp2_with fail
        go_roundg (nd - (k + 1))
        case measure => omega
        case rel => exact ⟨k + 1, rfl, by omega, by go_num, fun j hj => by by_cases h : j < k; exact hokH.out j h; rw [show j = k from by omega]; exact hok2H.out, hbH.out.trans (hb2.out.mono hbH.out.size), hP2.out⟩
       | false =>
        have hlt2 : Op.bytesLess y.toList x.toList = false := hlt.out.symm
        have hle : (Op.bytesLess x.toList y.toList || x.toList == y.toList) = true := by rw [le_lt, hlt2]; rfl
        clear hlt2
        have hbd := lh (hbad.out hok2H.out)
        go_wp2_with fail
        go_ret
        exact ⟨ret_b (by rw [hR.out, hbd.out]), hbH.out.trans (hb2.out.mono hbH.out.size)⟩
  . have hkn' : k = nd := by omega
    subst hkn'
    have hki : ¬ (k : Int) < (k : Int) := by omega
    have hdep := lh (show ∀ j, j < deps.length -> okAt deps j = true from fun j hj => hok j (by rw [hnd.out]; exact hj))
    clear hok hb hP
    obtain ⟨q, hq⟩ : ∃ q, q = wr.heap.size := ⟨_, rfl⟩
    obtain ⟨w2, hw2⟩ : ∃ w2, w2 = wr.alloc (.cells #[.int .i64 0, .int .i64 k] 121) := ⟨_, rfl⟩
    have hQ2 := lh (show w2.heap[q]? = some (.cells #[.int .i64 ((0 : Nat) : Int), .int .i64 k] 121 (0, 0)) by rw [hw2, hq]; exact heap_alloc_at _ _)
    have hP2 := lh (show w2.heap[g]? = some (.cells #[.string note, .slice D k dc, .slice A no ac] 25 (0, 0)) by rw [hw2]; exact (heap_alloc_lt _ _ _ (heap_lt hPH.out)).trans hPH.out)
    have hb2 := lh (show Below w.heap.size w w2 by rw [hw2]; exact hbH.out.alloc hbH.out.size _)
    have hgq := lh (show g ≠ q by have := heap_lt hPH.out; omega)
    have hwq := lh (show w.heap.size <= q by rw [hq]; exact hbH.out.size)
    have hbH' := hbH
    clear p0 p1 p2
    obtain ⟨p0', p1', p2', _, _⟩ := blk3' hPH.out
    go_upto_region 10 with fail
    rw [<- hw2, <- hq]
    replace hw2 := lh hw2
    replace hq := lh hq
    clear p0' p1' p2'
    obtain ⟨p0, p1, p2, _, _⟩ := blk3' hP2.out
    go_upto_region 11 with fail
    go_loopg [57] no (fun g' i W => ∃ j : Nat, g' = no - j /\ j <= no /\ i = .int .i64 j /\ (∀ m o, m < j -> ops[m]? = some o -> opOk (made (ops.take m)) deps.length o = true) /\ Below w.heap.size w W /\ W.heap[g]? = some (.cells #[.string note, .slice D k dc, .slice A no ac] 25 (0, 0)) /\ W.heap[q]? = some (.cells #[.int .i64 ((made (ops.take j) : Nat) : Int), .int .i64 k] 121 (0, 0)))
    case atStart => exact ⟨0, rfl, by omega, rfl, fun m o hm => absurd hm (by omega), hb2.out, hP2.out, hQ2.out⟩
    case round =>
     clear p0 p1 p2
     obtain ⟨j, hg', hj, rfl, hok, hb, hP, hQ⟩ := hrel
     subst hg'
     have hPH := lh hP
     have hbH := lh hb
     have hQH := lh hQ
     have hokH := lh hok
     obtain ⟨p0, p1, p2, _, _⟩ := blk3' hP
     obtain ⟨q0, q1, qsh, qfz⟩ := two_facts hQ
     obtain ⟨ow, how⟩ : ∃ ow, ow = made (ops.take j) := ⟨_, rfl⟩
     rw [<- how] at q0 hQH
     clear hok hb hP hQ
     by_cases hjn : j < no
     . have hji : (j : Int) < (no : Int) := by omega
       obtain ⟨⟨kk, ka, km, kb, kn, kl⟩, ho⟩ : ∃ o, ops[j]? = some o := ⟨ops[j]'(by rw [<- hno.out]; exact hjn), List.getElem?_eq_getElem _⟩
       obtain ⟨b, of, L, cl, hAe, o0, o1, o2, o3, o4, o5, hT⟩ := (hOH.out.below hbH.out).get j _ ho
       subst hAe
       have hTH := lh hT
       have hstep := made_step ops j _ ho
       have hmb := made_bound 140737488351232 (ops.take j) (fun o hoo => by
        obtain ⟨i, hi, rfl⟩ := List.getElem_of_mem (List.mem_of_mem_take hoo)
        obtain ⟨_, _, _, _, _, _, _, _, _, _, _, hTi⟩ := (hOH.out.below hbH.out).get i _ (List.getElem?_eq_getElem hi)
        exact hTi.2.2.1)
       have hlen := hT.2.2.1
       rw [<- how] at hstep hmb
       have hbound : ow + kl.length <= 401 * 140737488351232 := by
        have : (ops.take j).length <= 400 := by rw [List.length_take]; omega
        have := Nat.mul_le_mul_right 140737488351232 this
        show ow + (Op.mk kk ka km kb kn kl).ls.length <= _
        omega
       have CO := lh (fun W (h : Below wr.heap.size wr W) => op_c ow k kk ka km kb kn kl L cl W (hTH.out.below h))
       have hopb := lh (fun h => pfits_opb (note := note) (deps := deps) ho h)
       have hk' := lh hnd.out
       rw [<- how] at hopb
       have hstepH := lh hstep
       have hoH := lh ho
       obtain ⟨nl, hnl⟩ : ∃ nl, nl = kl.length := ⟨_, rfl⟩
       have o5' : wr.cell? ⟨b, of + j * 6 + 5, none⟩ = some (.slice L nl cl) := by rw [hnl]; exact o5
       rw [<- hnl] at CO hbound
       have hwr : IntKind.i64.wrap ((ow : Int) + (nl : Int)) = ((ow + nl : Nat) : Int) := by rw [show (ow : Int) + (nl : Int) = ((ow + nl : Nat) : Int) from by omega]; exact Lib.wrap_i64_small _ (by omega)
       obtain ⟨u, hu⟩ : ∃ u, u = wr.heap.size := ⟨_, rfl⟩
       obtain ⟨w4, hw4⟩ : ∃ w4, w4 = wr.alloc (.cells #[.int .i64 kk, .int .i64 ka, .int .i64 km, .int .i64 kb, .int .i64 kn, .slice L nl cl] 38) := ⟨_, rfl⟩
       have hU4 := lh (show w4.heap[u]? = some (.cells #[.int .i64 kk, .int .i64 ka, .int .i64 km, .int .i64 kb, .int .i64 kn, .slice L nl cl] 38 (0, 0)) by rw [hw4, hu]; exact heap_alloc_at _ _)
       have hb34 := lh (show Below wr.heap.size wr w4 by rw [hw4]; exact Wi.below_alloc _ _)
       have hQ4 := lh (show w4.heap[q]? = some (.cells #[.int .i64 (ow : Int), .int .i64 k] 121 (0, 0)) by rw [hw4]; exact (heap_alloc_lt _ _ _ (heap_lt hQH.out)).trans hQH.out)
       have hP4 := lh (show w4.heap[g]? = some (.cells #[.string note, .slice D k dc, .slice (some ⟨b, of, none⟩) no ac] 25 (0, 0)) by rw [hw4]; exact (heap_alloc_lt _ _ _ (heap_lt hPH.out)).trans hPH.out)
       have hb4 := lh (show Below w.heap.size w w4 from hbH.out.trans (hb34.out.mono hbH.out.size))
       have howH := lh how
       replace hnl := lh hnl
       clear o5 hT hmb hlen hstep ho how
       go_upto_region 13 with fail
       rw [<- hw4, <- hu]
       replace hw4 := lh hw4
       replace hu := lh hu
       clear p0 p1 p2 q0 q1 qsh qfz o0 o1 o2 o3 o4 o5'
       obtain ⟨q0, q1, qsh, qfz⟩ := two_facts hQ4.out
       obtain ⟨u0, u1, u2, u3, u4, u5, _, _⟩ := six_facts hU4.out
       go_wp2_with fail
       refine (CO.out w4 hb34.out).mono ?_
       rintro ev w5 ⟨rfl, hb5⟩
       have hU5 := lh ((hb5.block _ (heap_lt hU4.out)).trans hU4.out)
       have hQ5 := lh ((hb5.block _ (heap_lt hQ4.out)).trans hQ4.out)
       have hP5 := lh ((hb5.block _ (heap_lt hP4.out)).trans hP4.out)
       have hb5H := lh (hb4.out.trans (hb5.mono hb4.out.size))
       clear hb5 q0 q1 qsh qfz u0 u1 u2 u3 u4 u5
       obtain ⟨q0, q1, qsh, qfz⟩ := two_facts hQ5.out
       obtain ⟨u0, u1, u2, u3, u4, u5, _, _⟩ := six_facts hU5.out
       cases hop : opOk (ow : Int) (k : Int) ⟨kk, ka, km, kb, kn, kl⟩ with
       | false =>
        have hf := lh (hopb.out (by rw [<- hk'.out]; exact hop))
        clear hop
        go_wp2_with fail
        go_ret
        exact ⟨ret_b (by rw [hR.out, hf.out]), hb5H.out⟩
       | true =>
        have hopH := lh hop
        clear hop
        by_cases hk1 : kk = 1
        . subst hk1
          have hm1 := lh (show made (ops.take (j + 1)) = ow + nl by rw [hstepH.out, hnl.out]; rfl)
          have hQ6 := lh (show (w5.setCell ⟨q, 0, none⟩ (.int .i64 ((ow + nl : Nat) : Int))).heap[q]? = some (.cells #[.int .i64 ((made (ops.take (j + 1)) : Nat) : Int), .int .i64 k] 121 (0, 0)) by rw [hm1.out, heap_set_some hQ5.out]; rfl)
          have hP6 := lh (show (w5.setCell ⟨q, 0, none⟩ (.int .i64 ((ow + nl : Nat) : Int))).heap[g]? = some (.cells #[.string note, .slice D k dc, .slice (some ⟨b, of, none⟩) no ac] 25 (0, 0)) by rw [heap_set_ne w5 _ _ g hgq.out]; exact hP5.out)
          have hb6 := lh (show Below w.heap.size w (w5.setCell ⟨q, 0, none⟩ (.int .i64 ((ow + nl : Nat) : Int))) from hb5H.out.setCell hwq.out _)
          go_wp2_with fail
          go_roundg (no - (j + 1))
          case measure => omega
          case rel => exact ⟨j + 1, rfl, by omega, by go_num, fun m o hm ho => by
           by_cases e : m < j
           . exact hokH.out m o e ho
           . obtain rfl : m = j := by omega
             obtain rfl := Option.some.inj (hoH.out.symm.trans ho)
             rw [<- hk'.out, <- howH.out]
             exact hopH.out, hb6.out, hP6.out, hQ6.out⟩
        . have e1 : (kk == 1) = false := by rw [beq_eq_false_iff_ne]; exact hk1
          have hm1 := lh (show made (ops.take (j + 1)) = ow by rw [hstepH.out]; show ow + (if kk = 1 then kl.length else 0) = ow; rw [if_neg hk1]; rfl)
          have hQ6 := lh (show w5.heap[q]? = some (.cells #[.int .i64 ((made (ops.take (j + 1)) : Nat) : Int), .int .i64 k] 121 (0, 0)) by rw [hm1.out]; exact hQ5.out)
          clear hk1
          go_wp2_with fail
          go_roundg (no - (j + 1))
          case measure => omega
          case rel => exact ⟨j + 1, rfl, by omega, by go_num, fun m o hm ho => by
           by_cases e : m < j
           . exact hokH.out m o e ho
           . obtain rfl : m = j := by omega
             obtain rfl := Option.some.inj (hoH.out.symm.trans ho)
             rw [<- hk'.out, <- howH.out]
             exact hopH.out, hb5H.out, hP5.out, hQ6.out⟩
     . have hjn' : j = no := by omega
       subst hjn'
       have hji : ¬ (j : Int) < (j : Int) := by omega
       have hgood := lh (pfits_good hsizes.out hdep.out (fun m o ho => hokH.out m o (by rw [hno.out]; exact (List.getElem?_eq_some_iff.1 ho).1) ho))
       rw [List.take_of_length_le (by rw [<- hno.out]; exact Nat.le_refl _)] at how
       replace how := lh how
       go_wp2_with fail
       go_ret
       exact ⟨ret_b (by rw [hR.out, hgood.out, <- how.out, Bool.eq_iff_iff]; simp; omega), hbH.out⟩
end Go.Proofs.YtbiioaggilaebaaGreatDoor.Pa
