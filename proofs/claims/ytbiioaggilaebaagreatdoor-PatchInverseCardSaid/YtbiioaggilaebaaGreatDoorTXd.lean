/- What LawPatchInverse lean on, part d of 29: the texts PNumberx1, PMarkerx1, PSContx1, PPlacex1, PMadex1. -/
import Derived.Test.YtbiioaggilaebaaGreatDoorTX0
import Derived.Test.YtbiioaggilaebaaGreatDoorTXb
import Derived.Test.YtbiioaggilaebaaGreatDoorTXc
set_option linter.all false
set_option maxRecDepth 100000
set_option maxHeartbeats 16000000
namespace Go.Proofs.YtbiioaggilaebaaGreatDoor.PNumber
open Go.RowKit YtbiioaggilaebaaGreatDoorW.PrintWords YtbiioaggilaebaaGreatDoorW.PrintLast YtbiioaggilaebaaGreatDoorW.PrintMore
attribute [local go_sem] max2_int min2_int max_two min_two max_three min_three max_four min_four   -- for this text's walks alone
def tambourref04_Digits.f : Nat -> Int -> Option (ByteArray)
 | 0, _ => none
 | k + 1, a0 => if a0 < 0 then (if a0 = (-9223372036854775808) then (some (⟨#[45, 57, 50, 50, 51, 51, 55, 50, 48, 51, 54, 56, 53, 52, 55, 55, 53, 56, 48, 56]⟩ : ByteArray)) else ((tambourref04_Digits.f k (wrap64 (-a0))).bind fun t101 => (if 1 + t101.size <= 9223372036854775807 then (some ((⟨#[45]⟩ : ByteArray) ++ t101)) else (none)))) else ((some (([(wrap64 (48 + (Int.tmod a0 10))) % 256] : List Int) : List Int)).bind fun y102 => (if a0 < 10 then (some (strOfNums y102)) else ((tambourref04_Digits.f k (wrap64 (Int.tdiv a0 10))).bind fun t105 => (if t105.size + (strOfNums y102).size <= 9223372036854775807 then (some (t105 ++ (strOfNums y102))) else (none)))))
theorem tambourref04_Digits.mono_l : ∀ k, (∀ y0, LeO (tambourref04_Digits.f k y0) (tambourref04_Digits.f (k + 1) y0))
 | 0 => fun _ r h => by simp [tambourref04_Digits.f] at h
 | k + 1 => by
  have ih0 := tambourref04_Digits.mono_l k
  . intro y0
    unfold tambourref04_Digits.f
    repeat' first
    | (with_reducible exact ih0 _)
    | (with_reducible exact LeO.refl _)
    | (with_reducible exact LeO.none _)
    | (with_reducible refine LeO.ite ?_ ?_)
    | (with_reducible refine LeO.bind ?_ (fun _ => ?_))
    | exact ih0 _
    | exact LeO.none _
    | refine LeO.ite ?_ ?_
    | refine LeO.bind ?_ (fun _ => ?_)
theorem tambourref04_Digits.mono : ∀ a0 k, LeO (tambourref04_Digits.f k a0) (tambourref04_Digits.f (k + 1) a0) := by
 intro a0 k
 have ih0 := tambourref04_Digits.mono_l k
 exact ih0 a0
theorem tambourref04_Digits.calls (k : Nat) : ∀ (a0 : Int) (r : ByteArray) (w : World) (h : tambourref04_Digits.f k a0 = some r),
 Calls Tryz.prog 129 #[.int .i64 a0] w fun e w' => e = .returned (.string r) /\ Below w.heap.size w w' := by
 induction k using Nat.strongRecOn with
 | _ k ih =>
 intro a0 r w h
 cases k with
 | zero => exact absurd h (by simp [tambourref04_Digits.f])
 | succ k =>
 simp only [tambourref04_Digits.f] at h
 have HB := Aside0.mk (Below.refl w.heap.size w)
 have H : (if a0 < 0 then (if a0 = (-9223372036854775808) then (some (⟨#[45, 57, 50, 50, 51, 51, 55, 50, 48, 51, 54, 56, 53, 52, 55, 55, 53, 56, 48, 56]⟩ : ByteArray)) else ((tambourref04_Digits.f k (wrap64 (-a0))).bind fun t101 => (if 1 + t101.size <= 9223372036854775807 then (some ((⟨#[45]⟩ : ByteArray) ++ t101)) else (none)))) else ((some (([(wrap64 (48 + (Int.tmod a0 10))) % 256] : List Int) : List Int)).bind fun y102 => (if a0 < 10 then (some (strOfNums y102)) else ((tambourref04_Digits.f k (wrap64 (Int.tdiv a0 10))).bind fun t105 => (if t105.size + (strOfNums y102).size <= 9223372036854775807 then (some (t105 ++ (strOfNums y102))) else (none)))))) = some r := h
 clear h
 by_cases c2 : a0 < 0
 . rw [if_pos c2] at H
   have c2b0 : decide (a0 < 0) = true := decide_eq_true c2
   clear c2
   by_cases c3 : a0 = (-9223372036854775808)
   . rw [if_pos c3] at H
     have c3b0 : (a0 == (-9223372036854775808)) = true := beq_iff_eq.mpr c3
     have c3b1 : (a0 != (-9223372036854775808)) = false := bne_eq_false_iff_eq.mpr c3
     clear c3
     obtain rfl := Option.some.inj H
     go_enter Tryz.func129, Tryz.ntmps129
     go_wp2
     go_ret
     exact ⟨by first | rfl | (simp [errW_none, errW_some] <;> rfl) | (simp [*, errW_none, errW_some] <;> rfl), by repeat (first | (with_reducible first | exact HB.out | apply below_alloc | apply pw_below_drewN | apply below_drew1) | exact HB.out)⟩
   . rw [if_neg c3] at H
     have c3b0 : (a0 == (-9223372036854775808)) = false := beq_eq_false_iff_ne.mpr c3
     have c3b1 : (a0 != (-9223372036854775808)) = true := bne_iff_ne.mpr c3
     replace H := Option.bind_eq_some_iff.mp H
     obtain ⟨t101, A40, H⟩ := H
     replace H : (if 1 + t101.size <= 9223372036854775807 then (some ((⟨#[45]⟩ : ByteArray) ++ t101)) else (none)) = some r := H
     have A4 := Aside0.mk A40
     clear A40
     by_cases c5 : 1 + t101.size <= 9223372036854775807
     . rw [if_pos c5] at H
       have c5b0 := eq_true c5
       have c5b1 : decide (1 + t101.size <= 9223372036854775807) = true := decide_eq_true c5
       try have c5b2 : (9223372036854775807 < 1 + t101.size) = False := eq_false (Nat.not_lt.2 c5)
       obtain rfl := Option.some.inj H
       go_enter Tryz.func129, Tryz.ntmps129
       go_wp2_with (first | ((with_reducible refine gate_callee (f := 129) rfl ?_); refine goesL_ (some 10) rfl rfl Tryz.func129 (by kernel_rfl) rfl #[.int .i64 (wrap64 (-a0))] rfl (by (try simp only [List.map_toArray, List.map_cons, List.map_nil]); first | done | rfl | (simp only [List.length_drop, List.length_take]; rfl)) ?_; (with_reducible refine (ih k (by omega) (wrap64 (-a0)) t101 _ A4.out).mono ?_); rintro e w6 ⟨rfl, hb⟩; refine ⟨_, rfl, ?_⟩; have n0_ := Aside0.mk (below_step (by repeat (first | (with_reducible first | exact HB.out | apply below_alloc | apply pw_below_drewN | apply below_drew1) | exact HB.out)) hb); clear HB; have HB := n0_; clear n0_; (try clear hb); (try clear hb2); (try clear hk); (try clear hi)))
       go_ret
       exact ⟨by first | rfl | (simp [errW_none, errW_some] <;> rfl) | (simp [*, errW_none, errW_some] <;> rfl), by repeat (first | (with_reducible first | exact HB.out | apply below_alloc | apply pw_below_drewN | apply below_drew1) | exact HB.out)⟩
     . rw [if_neg c5] at H
       exact absurd H (by simp)
 . rw [if_neg c2] at H
   have c2b0 : decide (a0 < 0) = false := decide_eq_false c2
   clear c2
   obtain ⟨y102, hy102⟩ : ∃ y_ : List Int, y_ = (([(wrap64 (48 + (Int.tmod a0 10))) % 256] : List Int)) := ⟨_, rfl⟩
   replace H : (if a0 < 10 then (some (strOfNums y102)) else ((tambourref04_Digits.f k (wrap64 (Int.tdiv a0 10))).bind fun t105 => (if t105.size + (strOfNums y102).size <= 9223372036854775807 then (some (t105 ++ (strOfNums y102))) else (none)))) = some r := by first | (rw [hy102]; with_reducible exact H) | (have H2_ := (Option.bind_some _ _).symm.trans H; rw [hy102]; with_reducible exact H2_) | (have H2_ := (Option.bind_some _ _).symm.trans H; with_reducible exact H2_) | with_reducible exact H | (rw [hy102]; exact H) | exact H
   have Ny102 := Aside0.mk hy102
   clear hy102
   by_cases c7 : a0 < 10
   . rw [if_pos c7] at H
     have c7b0 : decide (a0 < 10) = true := decide_eq_true c7
     clear c7
     obtain rfl := Option.some.inj H
     go_enter Tryz.func129, Tryz.ntmps129
     go_wp2_with (first | ((with_reducible refine gate_dst (N := 16) rfl ?_); refine Kd.R_lit (Kd.int .u8) _ 5 ?hg (N := 16) ?hd (xs := ([(wrap64 (48 + (Int.tmod a0 10))) % 256] : List Int)) (inner := [.int .u8 ((wrap64 (48 + (Int.tmod a0 10))) % 256)]) (ok := fun _ => True) (okp := fun _ => True) ?hr ?hp (fun _ hk => hk) trivial (Below.refl _ _) (Nat.le_refl _) (by simp) ?_; (case hd => rfl); (case hg => rfl); (case hr => first | (go_simp; done) | (go_simp; rfl)); (case hp => exact (Reps.one (show Kd.M (Kd.int .u8) _ _ _ ((wrap64 (48 + (Int.tmod a0 10))) % 256) [.int .u8 ((wrap64 (48 + (Int.tmod a0 10))) % 256)] from rfl) (Reps.none _ _))); intro v103 w8 ho9 hb hg_ hnew_; clear hg_ hnew_; (first | rw [<- Ny102.out] at ho9 | (simp only [Int.reduceToNat] at ho9; rw [<- Ny102.out] at ho9)); have n0_ := Aside0.mk (Kd.R_lower ho9 (below_size (by repeat (first | (with_reducible first | exact HB.out | apply below_alloc | apply pw_below_drewN | apply below_drew1) | exact HB.out)))); have n1_ := Aside0.mk (below_step (by repeat (first | (with_reducible first | exact HB.out | apply below_alloc | apply pw_below_drewN | apply below_drew1) | exact HB.out)) hb); clear HB; have HO104 := n0_; have HB := n1_; clear n0_ n1_; clear hb ho9; have hcv10 := own_string (P := Tryz.prog) Tryz.underlying69 Tryz.underlying5 Tryz.underlying9 (Kd.own_of_R HO104.out)))
     go_ret
     exact ⟨by first | rfl | (simp [errW_none, errW_some] <;> rfl) | (simp [*, errW_none, errW_some] <;> rfl), by repeat (first | (with_reducible first | exact HB.out | apply below_alloc | apply pw_below_drewN | apply below_drew1) | exact HB.out)⟩
   . rw [if_neg c7] at H
     have c7b0 : decide (a0 < 10) = false := decide_eq_false c7
     clear c7
     replace H := Option.bind_eq_some_iff.mp H
     obtain ⟨t105, A110, H⟩ := H
     replace H : (if t105.size + (strOfNums y102).size <= 9223372036854775807 then (some (t105 ++ (strOfNums y102))) else (none)) = some r := H
     have A11 := Aside0.mk A110
     clear A110
     by_cases c12 : t105.size + (strOfNums y102).size <= 9223372036854775807
     . rw [if_pos c12] at H
       have c12b0 := eq_true c12
       have c12b1 : decide (t105.size + (strOfNums y102).size <= 9223372036854775807) = true := decide_eq_true c12
       try have c12b2 : (9223372036854775807 < t105.size + (strOfNums y102).size) = False := eq_false (Nat.not_lt.2 c12)
       obtain rfl := Option.some.inj H
       go_enter Tryz.func129, Tryz.ntmps129
       go_wp2_with (first | ((with_reducible refine gate_dst (N := 16) rfl ?_); refine Kd.R_lit (Kd.int .u8) _ 5 ?hg (N := 16) ?hd (xs := ([(wrap64 (48 + (Int.tmod a0 10))) % 256] : List Int)) (inner := [.int .u8 ((wrap64 (48 + (Int.tmod a0 10))) % 256)]) (ok := fun _ => True) (okp := fun _ => True) ?hr ?hp (fun _ hk => hk) trivial (Below.refl _ _) (Nat.le_refl _) (by simp) ?_; (case hd => rfl); (case hg => rfl); (case hr => first | (go_simp; done) | (go_simp; rfl)); (case hp => exact (Reps.one (show Kd.M (Kd.int .u8) _ _ _ ((wrap64 (48 + (Int.tmod a0 10))) % 256) [.int .u8 ((wrap64 (48 + (Int.tmod a0 10))) % 256)] from rfl) (Reps.none _ _))); intro v103 w13 ho14 hb hg_ hnew_; clear hg_ hnew_; (first | rw [<- Ny102.out] at ho14 | (simp only [Int.reduceToNat] at ho14; rw [<- Ny102.out] at ho14)); have n0_ := Aside0.mk (Kd.R_lower ho14 (below_size (by repeat (first | (with_reducible first | exact HB.out | apply below_alloc | apply pw_below_drewN | apply below_drew1) | exact HB.out)))); have n1_ := Aside0.mk (below_step (by repeat (first | (with_reducible first | exact HB.out | apply below_alloc | apply pw_below_drewN | apply below_drew1) | exact HB.out)) hb); clear HB; have HO104 := n0_; have HB := n1_; clear n0_ n1_; clear hb ho14; have hcv15 := own_string (P := Tryz.prog) Tryz.underlying69 Tryz.underlying5 Tryz.underlying9 (Kd.own_of_R HO104.out)) | ((with_reducible refine gate_callee (f := 129) rfl ?_); refine goesL_ (some 23) rfl rfl Tryz.func129 (by kernel_rfl) rfl #[.int .i64 (wrap64 (Int.tdiv a0 10))] rfl (by (try simp only [List.map_toArray, List.map_cons, List.map_nil]); first | done | rfl | (simp only [List.length_drop, List.length_take]; rfl)) ?_; (with_reducible refine (ih k (by omega) (wrap64 (Int.tdiv a0 10)) t105 _ A11.out).mono ?_); rintro e w16 ⟨rfl, hb⟩; refine ⟨_, rfl, ?_⟩; have n0_ := Aside0.mk (Kd.R_below (by (with_reducible repeat (first | apply Kd.R_alloc | apply Kd.R_drewN | apply Kd.R_drew)); exact HO104.out) hb); have n1_ := Aside0.mk (below_step (by repeat (first | (with_reducible first | exact HB.out | apply below_alloc | apply pw_below_drewN | apply below_drew1) | exact HB.out)) hb); clear HO104; clear HB; have HO104 := n0_; have HB := n1_; clear n0_ n1_; (try clear hb); (try clear hb2); (try clear hk); (try clear hi)))
       go_ret
       exact ⟨by first | rfl | (simp [errW_none, errW_some] <;> rfl) | (simp [*, errW_none, errW_some] <;> rfl), by repeat (first | (with_reducible first | exact HB.out | apply below_alloc | apply pw_below_drewN | apply below_drew1) | exact HB.out)⟩
     . rw [if_neg c12] at H
       exact absurd H (by simp)
end Go.Proofs.YtbiioaggilaebaaGreatDoor.PNumber
namespace Go.Proofs.YtbiioaggilaebaaGreatDoor.PMarker
open Go.RowKit YtbiioaggilaebaaGreatDoorW.PrintWords YtbiioaggilaebaaGreatDoorW.PrintLast YtbiioaggilaebaaGreatDoorW.PrintMore
attribute [local go_sem] max2_int min2_int max_two min_two max_three min_three max_four min_four   -- for this text's walks alone
mutual
def tambourref01_Marker.j0 : Nat -> ByteArray -> Bool -> Option (Bool)
 | 0, _, _ => none
 | k + 1, x0, x21 => if x21 = true then (some false) else (tambourref01_Marker.l0 k x0 1)
def tambourref01_Marker.l0 : Nat -> ByteArray -> Int -> Option (Bool)
 | 0, _, _ => none
 | k + 1, x0, x3 => if x3 < 7 then (if 0 <= x3 then (if x3 < (x0.size : Int) then (if 0 < (x0.size : Int) then (if (bt x0 x3) = (bt x0 0) then (tambourref01_Marker.l0 k x0 (wrap64 (x3 + 1))) else (some false)) else (none)) else (none)) else (none)) else (some true)
end
def tambourref01_Marker.f (k : Nat) (a0 : ByteArray) : Option (Bool) := if (a0.size : Int) < 7 then (tambourref01_Marker.j0 k a0 true) else (if 0 < (a0.size : Int) then (if (bt a0 0) = 62 then (tambourref01_Marker.j0 k a0 false) else (if (bt a0 0) = 61 then (tambourref01_Marker.j0 k a0 false) else (tambourref01_Marker.j0 k a0 ((bt a0 0) != 60)))) else (none))
theorem tambourref01_Marker.calls (k : Nat) (a0 : ByteArray) (r : Bool) (w : World) (h : tambourref01_Marker.f k a0 = some r) :
 Calls Tryz.prog 152 #[.string a0] w fun e w' => e = .returned (.bool r) /\ Drawn0 w w' := by
 have H : (if (a0.size : Int) < 7 then (tambourref01_Marker.j0 k a0 true) else (if 0 < (a0.size : Int) then (if (bt a0 0) = 62 then (tambourref01_Marker.j0 k a0 false) else (if (bt a0 0) = 61 then (tambourref01_Marker.j0 k a0 false) else (tambourref01_Marker.j0 k a0 ((bt a0 0) != 60)))) else (none))) = some r := h
 clear h
 have HC2 := Aside0.mk H
 clear H
 go_enter Tryz.func152, Tryz.ntmps152
 go_upto_region 1 with (fail)
 repeat (go_quiet (fail); go_upto_region 1 with (fail))
 go_cut [21] (fun v21 wc => ∃ (kq : Nat) (x21_1 : Bool), v21 = .bool x21_1 /\ Aside0 (tambourref01_Marker.j0 kq a0 x21_1 = some r) /\ Aside0 (kq <= k) /\ Drawn0 w wc)
 case first =>
  have H := HC2.out
  clear HC2
  by_cases c3 : (a0.size : Int) < 7
  . rw [if_pos c3] at H
    have c3b0 : decide ((a0.size : Int) < 7) = true := decide_eq_true c3
    have c3b1 : decide (a0.size < 7) = true := decide_eq_true (by omega)
    clear c3
    (first | rw [c3b0] | (simp only [i64_w, i32_w]; rw [c3b0]) | skip)
    have H' := Aside0.mk H
    clear H
    go_wp2
    repeat (go_quiet (fail); try go_wp2)
    go_meet
    case rel => exact ⟨_, (true), (by first | rfl | (simp; done) | (simp [*]; done)), H', ⟨by first | omega | exact Nat.le_refl _⟩, by repeat (first | exact Drawn0.refl _ | apply Drawn0.step)⟩
  . rw [if_neg c3] at H
    have c3b0 : decide ((a0.size : Int) < 7) = false := decide_eq_false c3
    have c3b1 : decide (a0.size < 7) = false := decide_eq_false (by omega)
    clear c3
    (first | rw [c3b0] | (simp only [i64_w, i32_w]; rw [c3b0]) | skip)
    by_cases c4 : 0 < (a0.size : Int)
    . rw [if_pos c4] at H
      have c4b0 : decide (0 < (a0.size : Int)) = true := decide_eq_true c4
      have c4b1 : decide (0 < a0.size) = true := decide_eq_true (by omega)
      clear c4
      by_cases c6 : (bt a0 0) = 62
      . rw [if_pos c6] at H
        have c6b0 : ((bt a0 0) == 62) = true := beq_iff_eq.mpr c6
        have c6b1 : ((bt a0 0) != 62) = false := bne_eq_false_iff_eq.mpr c6
        clear c6
        have H' := Aside0.mk H
        clear H
        have p5 : 0 <= (0 : Int) := (by omega)
        have q5 : 0 < a0.size := (by have : (0 : Int) < (a0.size : Int) := of_decide_eq_true (by first | (with_reducible assumption) | assumption); omega)
        have hx5 : ∀ h : 0 < a0.size, ((a0[0]'h).toNat : Int) = bt a0 0 := bt_at a0 0
        clear p5
        have qi5 : (0 < (a0.size : Int)) = True := eq_true (of_decide_eq_true (by first | (with_reducible assumption) | assumption))
        replace q5 := eq_true q5
        go_wp2
        repeat (go_quiet (fail); try go_wp2)
        go_meet
        case rel => exact ⟨_, (false), (by first | rfl | (simp; done) | (simp [*]; done)), H', ⟨by first | omega | exact Nat.le_refl _⟩, by repeat (first | exact Drawn0.refl _ | apply Drawn0.step)⟩
      . rw [if_neg c6] at H
        have c6b0 : ((bt a0 0) == 62) = false := beq_eq_false_iff_ne.mpr c6
        have c6b1 : ((bt a0 0) != 62) = true := bne_iff_ne.mpr c6
        by_cases c8 : (bt a0 0) = 61
        . rw [if_pos c8] at H
          have c8b0 : ((bt a0 0) == 61) = true := beq_iff_eq.mpr c8
          have c8b1 : ((bt a0 0) != 61) = false := bne_eq_false_iff_eq.mpr c8
          clear c8
          have H' := Aside0.mk H
          clear H
          have p5 : 0 <= (0 : Int) := (by omega)
          have q5 : 0 < a0.size := (by have : (0 : Int) < (a0.size : Int) := of_decide_eq_true (by first | (with_reducible assumption) | assumption); omega)
          have hx5 : ∀ h : 0 < a0.size, ((a0[0]'h).toNat : Int) = bt a0 0 := bt_at a0 0
          clear p5
          have qi5 : (0 < (a0.size : Int)) = True := eq_true (of_decide_eq_true (by first | (with_reducible assumption) | assumption))
          replace q5 := eq_true q5
          have p7 : 0 <= (0 : Int) := (by omega)
          have q7 : 0 < a0.size := (by have : (0 : Int) < (a0.size : Int) := of_decide_eq_true (by first | (with_reducible assumption) | assumption); omega)
          have hx7 : ∀ h : 0 < a0.size, ((a0[0]'h).toNat : Int) = bt a0 0 := bt_at a0 0
          clear p7
          have qi7 : (0 < (a0.size : Int)) = True := eq_true (of_decide_eq_true (by first | (with_reducible assumption) | assumption))
          replace q7 := eq_true q7
          go_wp2
          repeat (go_quiet (fail); try go_wp2)
          go_meet
          case rel => exact ⟨_, (false), (by first | rfl | (simp; done) | (simp [*]; done)), H', ⟨by first | omega | exact Nat.le_refl _⟩, by repeat (first | exact Drawn0.refl _ | apply Drawn0.step)⟩
        . rw [if_neg c8] at H
          have c8b0 : ((bt a0 0) == 61) = false := beq_eq_false_iff_ne.mpr c8
          have c8b1 : ((bt a0 0) != 61) = true := bne_iff_ne.mpr c8
          have H' := Aside0.mk H
          clear H
          have p5 : 0 <= (0 : Int) := (by omega)
          have q5 : 0 < a0.size := (by have : (0 : Int) < (a0.size : Int) := of_decide_eq_true (by first | (with_reducible assumption) | assumption); omega)
          have hx5 : ∀ h : 0 < a0.size, ((a0[0]'h).toNat : Int) = bt a0 0 := bt_at a0 0
          clear p5
          have qi5 : (0 < (a0.size : Int)) = True := eq_true (of_decide_eq_true (by first | (with_reducible assumption) | assumption))
          replace q5 := eq_true q5
          have p7 : 0 <= (0 : Int) := (by omega)
          have q7 : 0 < a0.size := (by have : (0 : Int) < (a0.size : Int) := of_decide_eq_true (by first | (with_reducible assumption) | assumption); omega)
          have hx7 : ∀ h : 0 < a0.size, ((a0[0]'h).toNat : Int) = bt a0 0 := bt_at a0 0
          clear p7
          have qi7 : (0 < (a0.size : Int)) = True := eq_true (of_decide_eq_true (by first | (with_reducible assumption) | assumption))
          replace q7 := eq_true q7
          have p9 : 0 <= (0 : Int) := (by omega)
          have q9 : 0 < a0.size := (by have : (0 : Int) < (a0.size : Int) := of_decide_eq_true (by first | (with_reducible assumption) | assumption); omega)
          have hx9 : ∀ h : 0 < a0.size, ((a0[0]'h).toNat : Int) = bt a0 0 := bt_at a0 0
          clear p9
          have qi9 : (0 < (a0.size : Int)) = True := eq_true (of_decide_eq_true (by first | (with_reducible assumption) | assumption))
          replace q9 := eq_true q9
          go_wp2
          repeat (go_quiet (fail); try go_wp2)
          go_meet
          case rel => exact ⟨_, (((bt a0 0) != 60)), (by first | rfl | (simp; done) | (simp [*]; done)), H', ⟨by first | omega | exact Nat.le_refl _⟩, by repeat (first | exact Drawn0.refl _ | apply Drawn0.step)⟩
    . rw [if_neg c4] at H
      exact absurd H (by simp)
 case rest =>
  clear HC2
  try clear c1
  try clear p2
  try clear c3
  try clear c3b0
  try clear c3b1
  try clear c4
  try clear c4b0
  try clear c4b1
  try clear p5
  try clear q5
  try clear hx5
  try clear qi5
  try clear c6
  try clear c6b0
  try clear c6b1
  try clear p7
  try clear q7
  try clear hx7
  try clear qi7
  try clear c8
  try clear c8b0
  try clear c8b1
  try clear p9
  try clear q9
  try clear hx9
  try clear qi9
  try clear p5
  try clear p7
  try clear p9
  try clear q5
  try clear q7
  try clear q9
  obtain ⟨kq, x21_1, rfl, HA, HJ1, ⟨mc1, rfl⟩⟩ := hcut
  cases kq with
  | zero => exact absurd HA.out (by simp [tambourref01_Marker.j0])
  | succ kj1 =>
   have H := HA.out
   clear HA
   simp only [tambourref01_Marker.j0] at H
   by_cases c10 : x21_1 = true
   . subst c10
     have H1 : (some false) = some r := by rw [if_pos rfl] at H; exact H
     clear H
     have H := H1
     clear H1
     obtain rfl := Option.some.inj H
     go_wp2
     repeat (go_quiet (fail); try go_wp2)
     go_ret
     exact ⟨by first | rfl | (simp; done) | (simp [*]; done), by repeat (first | exact Drawn0.refl _ | apply Drawn0.step)⟩
   . replace c10 := Bool.eq_false_iff.mpr c10
     subst c10
     have H1 : (tambourref01_Marker.l0 kj1 a0 1) = some r := by rw [if_neg (show ¬ (false = true) by decide)] at H; exact H
     clear H
     have H := H1
     clear H1
     have H' := Aside0.mk H
     clear H
     go_wp2
     repeat (go_quiet (fail); try go_wp2)
     go_loopg [3] kj1 (fun kq v3 w' => ∃ (x3_2 : Int), v3 = .int .i64 x3_2 /\ Aside0 (tambourref01_Marker.l0 kq a0 x3_2 = some r) /\ Aside0 (kq <= kj1) /\ Drawn0 w w')
     case atStart => exact ⟨(1), (by first | rfl | (simp; done) | (simp [*]; done)), H', ⟨Nat.le_refl _⟩, by repeat (first | exact Drawn0.refl _ | apply Drawn0.step)⟩
     case round =>
      clear H'
      try clear c1
      try clear p2
      try clear c3
      try clear c3b0
      try clear c3b1
      try clear c4
      try clear c4b0
      try clear c4b1
      try clear p5
      try clear q5
      try clear hx5
      try clear qi5
      try clear c6
      try clear c6b0
      try clear c6b1
      try clear p7
      try clear q7
      try clear hx7
      try clear qi7
      try clear c8
      try clear c8b0
      try clear c8b1
      try clear p9
      try clear q9
      try clear hx9
      try clear qi9
      try clear c10
      try clear p2
      try clear p5
      try clear p7
      try clear p9
      try clear q5
      try clear q7
      try clear q9
      obtain ⟨x3_2, rfl, HA, HK2, ⟨m2, rfl⟩⟩ := hrel
      cases gk with
      | zero => exact absurd HA.out (by simp [tambourref01_Marker.l0])
      | succ k2 =>
       have H := HA.out
       clear HA
       simp only [tambourref01_Marker.l0] at H
       by_cases c11 : x3_2 < 7
       . rw [if_pos c11] at H
         have c11b0 : decide (x3_2 < 7) = true := decide_eq_true c11
         clear c11
         by_cases c12 : 0 <= x3_2
         . rw [if_pos c12] at H
           have c12b0 : decide (0 <= x3_2) = true := decide_eq_true c12
           clear c12
           by_cases c13 : x3_2 < (a0.size : Int)
           . rw [if_pos c13] at H
             have c13b0 : decide (x3_2 < (a0.size : Int)) = true := decide_eq_true c13
             clear c13
             by_cases c15 : 0 < (a0.size : Int)
             . rw [if_pos c15] at H
               have c15b0 : decide (0 < (a0.size : Int)) = true := decide_eq_true c15
               have c15b1 : decide (0 < a0.size) = true := decide_eq_true (by omega)
               clear c15
               by_cases c17 : (bt a0 x3_2) = (bt a0 0)
               . rw [if_pos c17] at H
                 have c17b0 : ((bt a0 x3_2) == (bt a0 0)) = true := beq_iff_eq.mpr c17
                 have c17b1 : ((bt a0 x3_2) != (bt a0 0)) = false := bne_eq_false_iff_eq.mpr c17
                 clear c17
                 have H' := Aside0.mk H
                 clear H
                 have p14 : 0 <= (x3_2 : Int) := of_decide_eq_true (by first | (with_reducible assumption) | assumption)
                 have q14 : x3_2 < (a0.size : Int) := of_decide_eq_true (by first | (with_reducible assumption) | assumption)
                 have hx14 := bt_at a0 x3_2
                 replace p14 := eq_true p14
                 replace q14 := eq_true q14
                 have p16 : 0 <= (0 : Int) := (by omega)
                 have q16 : 0 < a0.size := (by have : (0 : Int) < (a0.size : Int) := of_decide_eq_true (by first | (with_reducible assumption) | assumption); omega)
                 have hx16 : ∀ h : 0 < a0.size, ((a0[0]'h).toNat : Int) = bt a0 0 := bt_at a0 0
                 clear p16
                 have qi16 : (0 < (a0.size : Int)) = True := eq_true (of_decide_eq_true (by first | (with_reducible assumption) | assumption))
                 replace q16 := eq_true q16
                 go_wp2
                 repeat (go_quiet (fail); try go_wp2)
                 go_roundg k2
                 case measure => have := HJ1.out; have := HK2.out; omega
                 case rel => exact ⟨(wrap64 (x3_2 + 1)), (by first | rfl | (simp; done) | (simp [*]; done)), H', ⟨by have := HJ1.out; have := HK2.out; omega⟩, by repeat (first | exact Drawn0.refl _ | apply Drawn0.step)⟩
               . rw [if_neg c17] at H
                 have c17b0 : ((bt a0 x3_2) == (bt a0 0)) = false := beq_eq_false_iff_ne.mpr c17
                 have c17b1 : ((bt a0 x3_2) != (bt a0 0)) = true := bne_iff_ne.mpr c17
                 obtain rfl := Option.some.inj H
                 have p14 : 0 <= (x3_2 : Int) := of_decide_eq_true (by first | (with_reducible assumption) | assumption)
                 have q14 : x3_2 < (a0.size : Int) := of_decide_eq_true (by first | (with_reducible assumption) | assumption)
                 have hx14 := bt_at a0 x3_2
                 replace p14 := eq_true p14
                 replace q14 := eq_true q14
                 have p16 : 0 <= (0 : Int) := (by omega)
                 have q16 : 0 < a0.size := (by have : (0 : Int) < (a0.size : Int) := of_decide_eq_true (by first | (with_reducible assumption) | assumption); omega)
                 have hx16 : ∀ h : 0 < a0.size, ((a0[0]'h).toNat : Int) = bt a0 0 := bt_at a0 0
                 clear p16
                 have qi16 : (0 < (a0.size : Int)) = True := eq_true (of_decide_eq_true (by first | (with_reducible assumption) | assumption))
                 replace q16 := eq_true q16
                 go_wp2
                 repeat (go_quiet (fail); try go_wp2)
                 go_ret
                 exact ⟨by first | rfl | (simp; done) | (simp [*]; done), by repeat (first | exact Drawn0.refl _ | apply Drawn0.step)⟩
             . rw [if_neg c15] at H
               exact absurd H (by simp)
           . rw [if_neg c13] at H
             exact absurd H (by simp)
         . rw [if_neg c12] at H
           exact absurd H (by simp)
       . rw [if_neg c11] at H
         have c11b0 : decide (x3_2 < 7) = false := decide_eq_false c11
         clear c11
         obtain rfl := Option.some.inj H
         go_wp2
         repeat (go_quiet (fail); try go_wp2)
         go_ret
         exact ⟨by first | rfl | (simp; done) | (simp [*]; done), by repeat (first | exact Drawn0.refl _ | apply Drawn0.step)⟩
end Go.Proofs.YtbiioaggilaebaaGreatDoor.PMarker
namespace Go.Proofs.YtbiioaggilaebaaGreatDoor.PSCont
open Go.RowKit YtbiioaggilaebaaGreatDoorW.PrintWords YtbiioaggilaebaaGreatDoorW.PrintLast YtbiioaggilaebaaGreatDoorW.PrintMore
attribute [local go_sem] max2_int min2_int max_two min_two max_three min_three max_four min_four   -- for this text's walks alone
def slices_Index_string_string.l0 : Nat -> List ByteArray -> ByteArray -> Int -> Int -> Option (Int)
 | 0, _, _, _, _ => none
 | k + 1, x0, x1, x7, x8 => if x8 < x7 then (if 0 <= x8 then (if x8 < (x0.length : Int) then (if x1.toList = (rdOf ByteArray.empty x0 x8).toList then (some x8) else (slices_Index_string_string.l0 k x0 x1 x7 (wrap64 (x8 + 1)))) else (none)) else (none)) else (some (-1))
def slices_Index_string_string.f (k : Nat) (l0 : List ByteArray) (a1 : ByteArray) : Option (Int) := slices_Index_string_string.l0 k l0 a1 (l0.length : Int) 0
theorem slices_Index_string_string.mono_l : ∀ k, (∀ y0 y1 y2 y3, LeO (slices_Index_string_string.l0 k y0 y1 y2 y3) (slices_Index_string_string.l0 (k + 1) y0 y1 y2 y3))
 | 0 => fun _ _ _ _ r h => by simp [slices_Index_string_string.l0] at h
 | k + 1 => by
  have ih0 := slices_Index_string_string.mono_l k
  . intro y0 y1 y2 y3
    unfold slices_Index_string_string.l0
    repeat' first
    | (with_reducible exact ih0 _ _ _ _)
    | (with_reducible exact LeO.refl _)
    | (with_reducible exact LeO.none _)
    | (with_reducible refine LeO.ite ?_ ?_)
    | (with_reducible refine LeO.bind ?_ (fun _ => ?_))
    | exact ih0 _ _ _ _
    | exact LeO.none _
    | refine LeO.ite ?_ ?_
    | refine LeO.bind ?_ (fun _ => ?_)
theorem slices_Index_string_string.mono : ∀ a0 a1 k, LeO (slices_Index_string_string.f k a0 a1) (slices_Index_string_string.f (k + 1) a0 a1) := by
 intro a0 a1 k
 have ih0 := slices_Index_string_string.mono_l k
 unfold slices_Index_string_string.f
 repeat' first
  | (with_reducible exact ih0 _ _ _ _)
  | (with_reducible exact LeO.refl _)
  | (with_reducible exact LeO.none _)
  | (with_reducible refine LeO.ite ?_ ?_)
  | (with_reducible refine LeO.bind ?_ (fun _ => ?_))
  | exact ih0 _ _ _ _
  | exact LeO.none _
  | refine LeO.ite ?_ ?_
  | refine LeO.bind ?_ (fun _ => ?_)
theorem slices_Index_string_string.calls (k : Nat) (A0 : Option Addr) (c0 : Nat) (l0 : List ByteArray) (a1 : ByteArray) (r : Int) (w : World) (hr0 : Kd.C Kd.string w A0 l0.length l0) (hc0 : l0.length <= c0) (h : slices_Index_string_string.f k l0 a1 = some r) :
 Calls Tryz.prog 35 #[.slice A0 l0.length c0, .string a1] w fun e w' => e = .returned (.int .i64 r) /\ Drawn0 w w' := by
 have HR0 := Aside0.mk hr0
 have HC0 := Aside0.mk hc0
 clear hr0 hc0
 have H : (slices_Index_string_string.l0 k l0 a1 (l0.length : Int) 0) = some r := h
 clear h
 have H' := Aside0.mk H
 clear H
 go_enter Tryz.func35, Tryz.ntmps35
 go_wp2
 go_loopg [8] k (fun kq v8 w' => ∃ (x8_1 : Int), v8 = .int .i64 x8_1 /\ Aside0 (slices_Index_string_string.l0 kq l0 a1 (l0.length : Int) x8_1 = some r) /\ Aside0 (kq <= k) /\ Drawn0 w w')
 case atStart => exact ⟨(0), (by first | rfl | (simp; done) | (simp [*]; done)), H', ⟨Nat.le_refl _⟩, by repeat (first | exact Drawn0.refl _ | apply Drawn0.step)⟩
 case round =>
  clear H'
  try clear p2
  obtain ⟨x8_1, rfl, HA, HK1, ⟨m1, rfl⟩⟩ := hrel
  cases gk with
  | zero => exact absurd HA.out (by simp [slices_Index_string_string.l0])
  | succ k1 =>
   have H := HA.out
   clear HA
   simp only [slices_Index_string_string.l0] at H
   by_cases c3 : x8_1 < (l0.length : Int)
   . rw [if_pos c3] at H
     have c3b0 : decide (x8_1 < (l0.length : Int)) = true := decide_eq_true c3
     clear c3
     by_cases c4 : 0 <= x8_1
     . rw [if_pos c4] at H
       have c4b0 : decide (0 <= x8_1) = true := decide_eq_true c4
       clear c4
       by_cases c5 : x8_1 < (l0.length : Int)
       . rw [if_pos c5] at H
         have c5b0 : decide (x8_1 < (l0.length : Int)) = true := decide_eq_true c5
         clear c5
         by_cases c6 : a1.toList = (rdOf ByteArray.empty l0 x8_1).toList
         . rw [if_pos c6] at H
           have c6b0 : (a1.toList == (rdOf ByteArray.empty l0 x8_1).toList) = true := beq_iff_eq.mpr c6
           have c6b1 : (a1.toList != (rdOf ByteArray.empty l0 x8_1).toList) = false := bne_eq_false_iff_eq.mpr c6
           clear c6
           obtain rfl := Option.some.inj H
           have p101 : 0 <= (x8_1 : Int) := of_decide_eq_true (by first | (with_reducible assumption) | assumption)
           have q101 : x8_1 < (l0.length : Int) := of_decide_eq_true (by first | (with_reducible assumption) | assumption)
           obtain ⟨ad101, e101, hx101_0⟩ := Kd.at_string HR0.out x8_1 p101 q101
           cases e101
           replace p101 := eq_true p101
           replace q101 := eq_true q101
           go_wp2
           go_ret
           exact ⟨by first | rfl | (simp; done) | (simp [*]; done), by repeat (first | exact Drawn0.refl _ | apply Drawn0.step)⟩
         . rw [if_neg c6] at H
           have c6b0 : (a1.toList == (rdOf ByteArray.empty l0 x8_1).toList) = false := beq_eq_false_iff_ne.mpr c6
           have c6b1 : (a1.toList != (rdOf ByteArray.empty l0 x8_1).toList) = true := bne_iff_ne.mpr c6
           have H' := Aside0.mk H
           clear H
           have p101 : 0 <= (x8_1 : Int) := of_decide_eq_true (by first | (with_reducible assumption) | assumption)
           have q101 : x8_1 < (l0.length : Int) := of_decide_eq_true (by first | (with_reducible assumption) | assumption)
           obtain ⟨ad101, e101, hx101_0⟩ := Kd.at_string HR0.out x8_1 p101 q101
           cases e101
           replace p101 := eq_true p101
           replace q101 := eq_true q101
           go_wp2
           go_roundg k1
           case measure => have := HK1.out; omega
           case rel => exact ⟨(wrap64 (x8_1 + 1)), (by first | rfl | (simp; done) | (simp [*]; done)), H', ⟨by have := HK1.out; omega⟩, by repeat (first | exact Drawn0.refl _ | apply Drawn0.step)⟩
       . rw [if_neg c5] at H
         exact absurd H (by simp)
     . rw [if_neg c4] at H
       exact absurd H (by simp)
   . rw [if_neg c3] at H
     have c3b0 : decide (x8_1 < (l0.length : Int)) = false := decide_eq_false c3
     clear c3
     obtain rfl := Option.some.inj H
     go_wp2
     go_ret
     exact ⟨by first | rfl | (simp; done) | (simp [*]; done), by repeat (first | exact Drawn0.refl _ | apply Drawn0.step)⟩
def slices_Contains_string_string.f (k : Nat) (l0 : List ByteArray) (a1 : ByteArray) : Option (Bool) := (slices_Index_string_string.f k l0 a1).bind fun t102 => (some (decide (t102 >= 0)))
theorem slices_Contains_string_string.mono : ∀ a0 a1 k, LeO (slices_Contains_string_string.f k a0 a1) (slices_Contains_string_string.f (k + 1) a0 a1) := by
 intro a0 a1 k
 unfold slices_Contains_string_string.f
 repeat' first
  | (with_reducible exact slices_Index_string_string.mono _ _ _)
  | (with_reducible exact LeO.refl _)
  | (with_reducible exact LeO.none _)
  | (with_reducible refine LeO.ite ?_ ?_)
  | (with_reducible refine LeO.bind ?_ (fun _ => ?_))
  | exact slices_Index_string_string.mono _ _ _
  | exact LeO.none _
  | refine LeO.ite ?_ ?_
  | refine LeO.bind ?_ (fun _ => ?_)
theorem slices_Contains_string_string.calls (k : Nat) (A0 : Option Addr) (c0 : Nat) (l0 : List ByteArray) (a1 : ByteArray) (r : Bool) (w : World) (hr0 : Kd.C Kd.string w A0 l0.length l0) (hc0 : l0.length <= c0) (h : slices_Contains_string_string.f k l0 a1 = some r) :
 Calls Tryz.prog 39 #[.slice A0 l0.length c0, .string a1] w fun e w' => e = .returned (.bool r) /\ Drawn0 w w' := by
 have HR0 := Aside0.mk hr0
 have HC0 := Aside0.mk hc0
 clear hr0 hc0
 have H : ((slices_Index_string_string.f k l0 a1).bind fun t102 => (some (decide (t102 >= 0)))) = some r := h
 clear h
 replace H := Option.bind_eq_some_iff.mp H
 obtain ⟨t102, A30, H⟩ := H
 replace H : (some (decide (t102 >= 0))) = some r := H
 have A3 := Aside0.mk A30
 clear A30
 obtain rfl := Option.some.inj H
 go_enter Tryz.func39, Tryz.ntmps39
 go_wp2_with (first | ((with_reducible refine gate_callee (f := 35) rfl ?_); refine goesL_ (some 7) rfl rfl Tryz.func35 (by kernel_rfl) rfl #[.slice A0 l0.length c0, .string a1] rfl (by (try simp only [List.map_toArray, List.map_cons, List.map_nil]); first | done | rfl | (simp only [List.length_drop, List.length_take]; rfl)) ?_; (with_reducible refine (slices_Index_string_string.calls k _ _ l0 a1 t102 _ ?side1 ?side2 A3.out).mono ?_); (case side1 => repeat (first | exact HR0.out | (with_reducible refine Kd.C_alloc ?_ _) | (with_reducible refine Kd.C_drewN ?_ _) | (with_reducible refine Kd.C_drew ?_))); (case side2 => exact HC0.out); rintro e w' ⟨rfl, ⟨nd, rfl⟩⟩; refine ⟨_, rfl, ?_⟩))
 go_ret
 exact ⟨by first | rfl | (simp; done) | (simp [*]; done), by repeat (first | exact Drawn0.refl _ | apply Drawn0.step)⟩
end Go.Proofs.YtbiioaggilaebaaGreatDoor.PSCont
namespace Go.Proofs.YtbiioaggilaebaaGreatDoor.PPlace
open Go.RowKit YtbiioaggilaebaaGreatDoorW.PrintWords YtbiioaggilaebaaGreatDoorW.PrintLast YtbiioaggilaebaaGreatDoorW.PrintMore
attribute [local go_sem] max2_int min2_int max_two min_two max_three min_three max_four min_four   -- for this text's walks alone
def tambourref05_Place.l0 : Nat -> List ByteArray -> ByteArray -> Int -> Option (Int)
 | 0, _, _, _ => none
 | k + 1, x0, x1, x5 => if x5 < (x0.length : Int) then (if 0 <= x5 then (if (rdOf ByteArray.empty x0 x5).toList = x1.toList then (some x5) else (tambourref05_Place.l0 k x0 x1 (wrap64 (x5 + 1)))) else (none)) else (some (-1))
def tambourref05_Place.f (k : Nat) (l0 : List ByteArray) (a1 : ByteArray) : Option (Int) := tambourref05_Place.l0 k l0 a1 0
theorem tambourref05_Place.mono_l : ∀ k, (∀ y0 y1 y2, LeO (tambourref05_Place.l0 k y0 y1 y2) (tambourref05_Place.l0 (k + 1) y0 y1 y2))
 | 0 => fun _ _ _ r h => by simp [tambourref05_Place.l0] at h
 | k + 1 => by
  have ih0 := tambourref05_Place.mono_l k
  . intro y0 y1 y2
    unfold tambourref05_Place.l0
    repeat' first
    | (with_reducible exact ih0 _ _ _)
    | (with_reducible exact LeO.refl _)
    | (with_reducible exact LeO.none _)
    | (with_reducible refine LeO.ite ?_ ?_)
    | (with_reducible refine LeO.bind ?_ (fun _ => ?_))
    | exact ih0 _ _ _
    | exact LeO.none _
    | refine LeO.ite ?_ ?_
    | refine LeO.bind ?_ (fun _ => ?_)
theorem tambourref05_Place.mono : ∀ a0 a1 k, LeO (tambourref05_Place.f k a0 a1) (tambourref05_Place.f (k + 1) a0 a1) := by
 intro a0 a1 k
 have ih0 := tambourref05_Place.mono_l k
 unfold tambourref05_Place.f
 repeat' first
  | (with_reducible exact ih0 _ _ _)
  | (with_reducible exact LeO.refl _)
  | (with_reducible exact LeO.none _)
  | (with_reducible refine LeO.ite ?_ ?_)
  | (with_reducible refine LeO.bind ?_ (fun _ => ?_))
  | exact ih0 _ _ _
  | exact LeO.none _
  | refine LeO.ite ?_ ?_
  | refine LeO.bind ?_ (fun _ => ?_)
theorem tambourref05_Place.calls (k : Nat) (A0 : Option Addr) (c0 : Nat) (l0 : List ByteArray) (a1 : ByteArray) (r : Int) (w : World) (hr0 : Kd.C Kd.string w A0 l0.length l0) (hc0 : l0.length <= c0) (h : tambourref05_Place.f k l0 a1 = some r) :
 Calls Tryz.prog 28 #[.slice A0 l0.length c0, .string a1] w fun e w' => e = .returned (.int .i64 r) /\ Drawn0 w w' := by
 have HR0 := Aside0.mk hr0
 have HC0 := Aside0.mk hc0
 clear hr0 hc0
 have H : (tambourref05_Place.l0 k l0 a1 0) = some r := h
 clear h
 have H' := Aside0.mk H
 clear H
 go_enter Tryz.func28, Tryz.ntmps28
 go_wp2
 go_loopg [5] k (fun kq v5 w' => ∃ (x5_1 : Int), v5 = .int .i64 x5_1 /\ Aside0 (tambourref05_Place.l0 kq l0 a1 x5_1 = some r) /\ Aside0 (kq <= k) /\ Drawn0 w w')
 case atStart => exact ⟨(0), (by first | rfl | (simp; done) | (simp [*]; done)), H', ⟨Nat.le_refl _⟩, by repeat (first | exact Drawn0.refl _ | apply Drawn0.step)⟩
 case round =>
  clear H'
  try clear c2
  try clear p2
  obtain ⟨x5_1, rfl, HA, HK1, ⟨m1, rfl⟩⟩ := hrel
  cases gk with
  | zero => exact absurd HA.out (by simp [tambourref05_Place.l0])
  | succ k1 =>
   have H := HA.out
   clear HA
   simp only [tambourref05_Place.l0] at H
   by_cases c3 : x5_1 < (l0.length : Int)
   . rw [if_pos c3] at H
     have c3b0 : decide (x5_1 < (l0.length : Int)) = true := decide_eq_true c3
     clear c3
     by_cases c4 : 0 <= x5_1
     . rw [if_pos c4] at H
       have c4b0 : decide (0 <= x5_1) = true := decide_eq_true c4
       clear c4
       by_cases c5 : (rdOf ByteArray.empty l0 x5_1).toList = a1.toList
       . rw [if_pos c5] at H
         have c5b0 : ((rdOf ByteArray.empty l0 x5_1).toList == a1.toList) = true := beq_iff_eq.mpr c5
         have c5b1 : ((rdOf ByteArray.empty l0 x5_1).toList != a1.toList) = false := bne_eq_false_iff_eq.mpr c5
         clear c5
         obtain rfl := Option.some.inj H
         have p101 : 0 <= (x5_1 : Int) := of_decide_eq_true (by first | (with_reducible assumption) | assumption)
         have q101 : x5_1 < (l0.length : Int) := of_decide_eq_true (by first | (with_reducible assumption) | assumption)
         obtain ⟨ad101, e101, hx101_0⟩ := Kd.at_string HR0.out x5_1 p101 q101
         cases e101
         replace p101 := eq_true p101
         replace q101 := eq_true q101
         go_wp2
         go_ret
         exact ⟨by first | rfl | (simp; done) | (simp [*]; done), by repeat (first | exact Drawn0.refl _ | apply Drawn0.step)⟩
       . rw [if_neg c5] at H
         have c5b0 : ((rdOf ByteArray.empty l0 x5_1).toList == a1.toList) = false := beq_eq_false_iff_ne.mpr c5
         have c5b1 : ((rdOf ByteArray.empty l0 x5_1).toList != a1.toList) = true := bne_iff_ne.mpr c5
         have H' := Aside0.mk H
         clear H
         have p101 : 0 <= (x5_1 : Int) := of_decide_eq_true (by first | (with_reducible assumption) | assumption)
         have q101 : x5_1 < (l0.length : Int) := of_decide_eq_true (by first | (with_reducible assumption) | assumption)
         obtain ⟨ad101, e101, hx101_0⟩ := Kd.at_string HR0.out x5_1 p101 q101
         cases e101
         replace p101 := eq_true p101
         replace q101 := eq_true q101
         go_wp2
         go_roundg k1
         case measure => have := HK1.out; omega
         case rel => exact ⟨(wrap64 (x5_1 + 1)), (by first | rfl | (simp; done) | (simp [*]; done)), H', ⟨by have := HK1.out; omega⟩, by repeat (first | exact Drawn0.refl _ | apply Drawn0.step)⟩
     . rw [if_neg c4] at H
       exact absurd H (by simp)
   . rw [if_neg c3] at H
     have c3b0 : decide (x5_1 < (l0.length : Int)) = false := decide_eq_false c3
     clear c3
     obtain rfl := Option.some.inj H
     go_wp2
     go_ret
     exact ⟨by first | rfl | (simp; done) | (simp [*]; done), by repeat (first | exact Drawn0.refl _ | apply Drawn0.step)⟩
end Go.Proofs.YtbiioaggilaebaaGreatDoor.PPlace
namespace Go.Proofs.YtbiioaggilaebaaGreatDoor.PMade
open Go.RowKit YtbiioaggilaebaaGreatDoorW.PrintWords YtbiioaggilaebaaGreatDoorW.PrintLast YtbiioaggilaebaaGreatDoorW.PrintMore
attribute [local go_sem] max2_int min2_int max_two min_two max_three min_three max_four min_four   -- for this text's walks alone
def tambourref05_Made.l0 : Nat -> Int -> Int -> ByteArray -> List ByteArray -> List (S38) -> Option (Int)
 | 0, _, _, _, _, _ => none
 | k + 1, x3, x4, x102000, x102001, x102002 => if x4 < (x102002.length : Int) then (if 0 <= x4 then (if ((rd_T38 x102002 x4).f0) = 1 then (tambourref05_Made.l0 k (wrap64 (x3 + (((rd_T38 x102002 x4).f3).length : Int))) (wrap64 (x4 + 1)) x102000 x102001 x102002) else (tambourref05_Made.l0 k x3 (wrap64 (x4 + 1)) x102000 x102001 x102002)) else (none)) else (some x3)
def tambourref05_Made.f (k : Nat) (a0_0 : ByteArray) (l0_1 : List ByteArray) (l0_2 : List (S38)) : Option (Int) := tambourref05_Made.l0 k 0 0 a0_0 l0_1 l0_2
theorem tambourref05_Made.calls (k : Nat) (a0_0 : ByteArray) (A0_1 : Option Addr) (c0_1 : Nat) (l0_1 : List ByteArray) (A0_2 : Option Addr) (c0_2 : Nat) (l0_2 : List (S38)) (r : Int) (w : World) (hr0_1 : Kd.C Kd.string w A0_1 l0_1.length l0_1) (hc0_1 : l0_1.length <= c0_1) (hr0_2 : Kd.C k38 w A0_2 l0_2.length l0_2) (hc0_2 : l0_2.length <= c0_2) (h : tambourref05_Made.f k a0_0 l0_1 l0_2 = some r) :
 Calls Tryz.prog 21 #[.agg #[.string a0_0, .slice A0_1 l0_1.length c0_1, .slice A0_2 l0_2.length c0_2]] w fun e w' => e = .returned (.int .i64 r) /\ Below w.heap.size w w' := by
 have hu25 := Tryz.underlying25
 have HR0_1 := Aside0.mk hr0_1
 have HC0_1 := Aside0.mk hc0_1
 clear hr0_1 hc0_1
 have HR0_2 := Aside0.mk hr0_2
 have HC0_2 := Aside0.mk hc0_2
 clear hr0_2 hc0_2
 have HB := Aside0.mk (Below.refl w.heap.size w)
 have H : (tambourref05_Made.l0 k 0 0 a0_0 l0_1 l0_2) = some r := h
 clear h
 have H' := Aside0.mk H
 clear H
 go_enter Tryz.func21, Tryz.ntmps21
 go_wp2_with (first | ((with_reducible refine gate_dst (N := 1) rfl ?_); refine box_event ?hg (N := 1) ?hd (cs := #[.string a0_0, .slice A0_1 l0_1.length c0_1, .slice A0_2 l0_2.length c0_2]) (t := 25) ?hr ?_; (case hd => rfl); (case hg => rfl); (case hr => first | (go_simp; done) | (go_simp; rfl)); intro gb101 hg w2 hbox hb; have n0_ := Aside0.mk (below_step (by repeat (first | (with_reducible first | exact HB.out | apply below_alloc | apply pw_below_drewN | apply below_drew1) | exact HB.out)) hb); have n1_ := Aside0.mk (hbox); have n2_ := Aside0.mk ((by rw [hg]; exact (below_size (by repeat (first | (with_reducible first | exact HB.out | apply below_alloc | apply pw_below_drewN | apply below_drew1) | exact HB.out))) : w.heap.size <= gb101)); have n3_ := Aside0.mk ((by rw [hg]; exact (below_size (by repeat (first | (with_reducible first | exact HB.out | apply below_alloc | apply pw_below_drewN | apply below_drew1) | exact HB.out))) : w.heap.size <= gb101)); clear HB; have HB := n0_; have BK101 := n1_; have GW101 := n2_; have GE101 := n3_; clear n0_ n1_ n2_ n3_; clear hb hbox hg))
 go_loopg [3, 4] k (fun kq v3 v4 w' => ∃ (x3_1 : Int) (x4_1 : Int), v3 = .int .i64 x3_1 /\ v4 = .int .i64 x4_1 /\ Aside0 (tambourref05_Made.l0 kq x3_1 x4_1 a0_0 l0_1 l0_2 = some r) /\ Aside0 (kq <= k) /\ Aside0 (w'.heap[gb101]? = some (.cells #[.string a0_0, (.slice A0_1 l0_1.length c0_1), (.slice A0_2 l0_2.length c0_2)] 25 (0, 0))) /\ Aside0 (Below w.heap.size w w'))
 case atStart => exact ⟨(0), (0), (by first | rfl | (simp; done) | (simp [*]; done)), (by first | rfl | (simp; done) | (simp [*]; done)), H', ⟨Nat.le_refl _⟩, ⟨by (with_reducible repeat (first | refine blk_drewN ?_ _ | refine blk_drew ?_ | refine blk_alloc ?_ _)); exact BK101.out⟩, ⟨by repeat (first | (with_reducible first | exact HB.out | apply below_alloc | apply pw_below_drewN | apply below_drew1 | refine below_set ?_ GE101.out) | exact HB.out)⟩⟩
 case round =>
  clear H'
  try clear c2
  try clear p2
  obtain ⟨x3_1, x4_1, rfl, rfl, HA, HK1, BK101, HB⟩ := hrel
  cases gk with
  | zero => exact absurd HA.out (by simp [tambourref05_Made.l0])
  | succ k1 =>
   have H := HA.out
   clear HA
   simp only [tambourref05_Made.l0] at H
   by_cases c3 : x4_1 < (l0_2.length : Int)
   . rw [if_pos c3] at H
     have c3b0 : decide (x4_1 < (l0_2.length : Int)) = true := decide_eq_true c3
     clear c3
     by_cases c4 : 0 <= x4_1
     . rw [if_pos c4] at H
       have c4b0 : decide (0 <= x4_1) = true := decide_eq_true c4
       clear c4
       by_cases c5 : ((rd_T38 l0_2 x4_1).f0) = 1
       . rw [if_pos c5] at H
         have c5b0 : (((rd_T38 l0_2 x4_1).f0) == 1) = true := beq_iff_eq.mpr c5
         have c5b1 : (((rd_T38 l0_2 x4_1).f0) != 1) = false := bne_eq_false_iff_eq.mpr c5
         clear c5
         have H' := Aside0.mk H
         clear H
         have hcz6_0 : wr.cell? ⟨gb101, 0, none⟩ = some (.string a0_0) := (blk_cell BK101.out 0).trans rfl
         have hcz6_1 : wr.cell? ⟨gb101, 1, none⟩ = some (.slice A0_1 l0_1.length c0_1) := (blk_cell BK101.out 1).trans rfl
         have hcz6_2 : wr.cell? ⟨gb101, 2, none⟩ = some (.slice A0_2 l0_2.length c0_2) := (blk_cell BK101.out 2).trans rfl
         have hfz6_0 := blk_frozen BK101.out 0
         have hfz6_1 := blk_frozen BK101.out 1
         have hfz6_2 := blk_frozen BK101.out 2
         have p102 : 0 <= (x4_1 : Int) := of_decide_eq_true (by first | (with_reducible assumption) | assumption)
         have q102 : x4_1 < (l0_2.length : Int) := of_decide_eq_true (by first | (with_reducible assumption) | assumption)
         obtain ⟨ad102, A102_5, c102_5, e102, hx102_0, hx102_1, hx102_2, hx102_3, hx102_4, hx102_5, hl102_5, hi102_5⟩ := at_T38 HR0_2.out x4_1 p102 q102
         cases e102
         replace hx102_0 := (HB.out.cell (World.block_lt_of_cell? w _ hx102_0)).trans hx102_0
         replace hx102_1 := (HB.out.cell (World.block_lt_of_cell? w _ hx102_1)).trans hx102_1
         replace hx102_2 := (HB.out.cell (World.block_lt_of_cell? w _ hx102_2)).trans hx102_2
         replace hx102_3 := (HB.out.cell (World.block_lt_of_cell? w _ hx102_3)).trans hx102_3
         replace hx102_4 := (HB.out.cell (World.block_lt_of_cell? w _ hx102_4)).trans hx102_4
         replace hx102_5 := (HB.out.cell (World.block_lt_of_cell? w _ hx102_5)).trans hx102_5
         have HR102_5 := Aside0.mk hi102_5
         have HC102_5 := Aside0.mk hl102_5
         clear hi102_5 hl102_5
         replace p102 := eq_true p102
         replace q102 := eq_true q102
         have p103 : 0 <= (x4_1 : Int) := of_decide_eq_true (by first | (with_reducible assumption) | assumption)
         have q103 : x4_1 < (l0_2.length : Int) := of_decide_eq_true (by first | (with_reducible assumption) | assumption)
         obtain ⟨ad103, A103_5, c103_5, e103, hx103_0, hx103_1, hx103_2, hx103_3, hx103_4, hx103_5, hl103_5, hi103_5⟩ := at_T38 HR0_2.out x4_1 p103 q103
         obtain rfl : ad102 = ad103 := (by injection e103)
         replace hx103_0 := (HB.out.cell (World.block_lt_of_cell? w _ hx103_0)).trans hx103_0
         replace hx103_1 := (HB.out.cell (World.block_lt_of_cell? w _ hx103_1)).trans hx103_1
         replace hx103_2 := (HB.out.cell (World.block_lt_of_cell? w _ hx103_2)).trans hx103_2
         replace hx103_3 := (HB.out.cell (World.block_lt_of_cell? w _ hx103_3)).trans hx103_3
         replace hx103_4 := (HB.out.cell (World.block_lt_of_cell? w _ hx103_4)).trans hx103_4
         replace hx103_5 := (HB.out.cell (World.block_lt_of_cell? w _ hx103_5)).trans hx103_5
         have HR103_5 := Aside0.mk hi103_5
         have HC103_5 := Aside0.mk hl103_5
         clear hi103_5 hl103_5
         replace p103 := eq_true p103
         replace q103 := eq_true q103
         have ea_ := Option.some.inj (hx102_5.symm.trans hx103_5)
         injection ea_ with ea_ en_ ec_
         subst ea_
         subst ec_
         clear en_
         go_wp2
         go_roundg k1
         case measure => have := HK1.out; omega
         case rel => exact ⟨(wrap64 (x3_1 + (((rd_T38 l0_2 x4_1).f3).length : Int))), (wrap64 (x4_1 + 1)), (by first | rfl | (simp; done) | (simp [*]; done)), (by first | rfl | (simp; done) | (simp [*]; done)), H', ⟨by have := HK1.out; omega⟩, ⟨by (with_reducible repeat (first | refine blk_drewN ?_ _ | refine blk_drew ?_ | refine blk_alloc ?_ _)); exact BK101.out⟩, ⟨by repeat (first | (with_reducible first | exact HB.out | apply below_alloc | apply pw_below_drewN | apply below_drew1 | refine below_set ?_ GE101.out) | exact HB.out)⟩⟩
       . rw [if_neg c5] at H
         have c5b0 : (((rd_T38 l0_2 x4_1).f0) == 1) = false := beq_eq_false_iff_ne.mpr c5
         have c5b1 : (((rd_T38 l0_2 x4_1).f0) != 1) = true := bne_iff_ne.mpr c5
         have H' := Aside0.mk H
         clear H
         have hcz7_0 : wr.cell? ⟨gb101, 0, none⟩ = some (.string a0_0) := (blk_cell BK101.out 0).trans rfl
         have hcz7_1 : wr.cell? ⟨gb101, 1, none⟩ = some (.slice A0_1 l0_1.length c0_1) := (blk_cell BK101.out 1).trans rfl
         have hcz7_2 : wr.cell? ⟨gb101, 2, none⟩ = some (.slice A0_2 l0_2.length c0_2) := (blk_cell BK101.out 2).trans rfl
         have hfz7_0 := blk_frozen BK101.out 0
         have hfz7_1 := blk_frozen BK101.out 1
         have hfz7_2 := blk_frozen BK101.out 2
         have p102 : 0 <= (x4_1 : Int) := of_decide_eq_true (by first | (with_reducible assumption) | assumption)
         have q102 : x4_1 < (l0_2.length : Int) := of_decide_eq_true (by first | (with_reducible assumption) | assumption)
         obtain ⟨ad102, A102_5, c102_5, e102, hx102_0, hx102_1, hx102_2, hx102_3, hx102_4, hx102_5, hl102_5, hi102_5⟩ := at_T38 HR0_2.out x4_1 p102 q102
         cases e102
         replace hx102_0 := (HB.out.cell (World.block_lt_of_cell? w _ hx102_0)).trans hx102_0
         replace hx102_1 := (HB.out.cell (World.block_lt_of_cell? w _ hx102_1)).trans hx102_1
         replace hx102_2 := (HB.out.cell (World.block_lt_of_cell? w _ hx102_2)).trans hx102_2
         replace hx102_3 := (HB.out.cell (World.block_lt_of_cell? w _ hx102_3)).trans hx102_3
         replace hx102_4 := (HB.out.cell (World.block_lt_of_cell? w _ hx102_4)).trans hx102_4
         replace hx102_5 := (HB.out.cell (World.block_lt_of_cell? w _ hx102_5)).trans hx102_5
         have HR102_5 := Aside0.mk hi102_5
         have HC102_5 := Aside0.mk hl102_5
         clear hi102_5 hl102_5
         replace p102 := eq_true p102
         replace q102 := eq_true q102
         go_wp2
         go_roundg k1
         case measure => have := HK1.out; omega
         case rel => exact ⟨(x3_1), (wrap64 (x4_1 + 1)), (by first | rfl | (simp; done) | (simp [*]; done)), (by first | rfl | (simp; done) | (simp [*]; done)), H', ⟨by have := HK1.out; omega⟩, ⟨by (with_reducible repeat (first | refine blk_drewN ?_ _ | refine blk_drew ?_ | refine blk_alloc ?_ _)); exact BK101.out⟩, ⟨by repeat (first | (with_reducible first | exact HB.out | apply below_alloc | apply pw_below_drewN | apply below_drew1 | refine below_set ?_ GE101.out) | exact HB.out)⟩⟩
     . rw [if_neg c4] at H
       exact absurd H (by simp)
   . rw [if_neg c3] at H
     have c3b0 : decide (x4_1 < (l0_2.length : Int)) = false := decide_eq_false c3
     clear c3
     obtain rfl := Option.some.inj H
     have hcz8_0 : wr.cell? ⟨gb101, 0, none⟩ = some (.string a0_0) := (blk_cell BK101.out 0).trans rfl
     have hcz8_1 : wr.cell? ⟨gb101, 1, none⟩ = some (.slice A0_1 l0_1.length c0_1) := (blk_cell BK101.out 1).trans rfl
     have hcz8_2 : wr.cell? ⟨gb101, 2, none⟩ = some (.slice A0_2 l0_2.length c0_2) := (blk_cell BK101.out 2).trans rfl
     have hfz8_0 := blk_frozen BK101.out 0
     have hfz8_1 := blk_frozen BK101.out 1
     have hfz8_2 := blk_frozen BK101.out 2
     go_wp2
     go_ret
     exact ⟨by first | rfl | (simp [errW_none, errW_some] <;> rfl) | (simp [*, errW_none, errW_some] <;> rfl), by repeat (first | (with_reducible first | exact HB.out | apply below_alloc | apply pw_below_drewN | apply below_drew1 | refine below_set ?_ GE101.out) | exact HB.out)⟩
end Go.Proofs.YtbiioaggilaebaaGreatDoor.PMade
