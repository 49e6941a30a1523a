/- What LawPatchCommutes lean on, part x of 29: the texts PaU, PaV, PaX, PaZ. -/
import Derived.Test.YtbiioaggilaebaaGreatDoorTWq
import Derived.Test.YtbiioaggilaebaaGreatDoorTWr
import Derived.Test.YtbiioaggilaebaaGreatDoorTWs
import Derived.Test.YtbiioaggilaebaaGreatDoorTWu
import Derived.Test.YtbiioaggilaebaaGreatDoorTWw
set_option linter.unusedVariables false
set_option linter.unusedSimpArgs false
namespace Go.Proofs.YtbiioaggilaebaaGreatDoor.Pa
open Go Go.RowKit Go.Proofs.YtbiioaggilaebaaGreatDoorW.PrintWords Go.Proofs.YtbiioaggilaebaaGreatDoor.B Go.Proofs.YtbiioaggilaebaaGreatDoor.Tm Go.Proofs.YtbiioaggilaebaaGreatDoor.Wi Go.Proofs.YtbiioaggilaebaaGreatDoor.Dig
set_option maxRecDepth 100000 in
set_option maxHeartbeats 32000000 in
theorem rright5_c (note : ByteArray) (D : Option Addr) (dc : Nat) (deps : List ByteArray) (A : Option Addr) (ac : Nat) (ops : List Op) (w : World) (hD : TxAt w D dc deps) (hO : OpsAt w A ac ops) :
    Calls Tryz.prog 47 #[.agg #[.string note, .slice D deps.length dc, .slice A ops.length ac]] w fun e w' => e = .returned (.bool (pright note deps ops)) ∧ Below w.heap.size w w' := by
  obtain ⟨g, hg⟩ : ∃ g, g = w.heap.size := ⟨_, rfl⟩
  obtain ⟨w1, hw1⟩ : ∃ w1, w1 = w.alloc (.cells #[.string note, .slice D deps.length dc, .slice A ops.length ac] 25) := ⟨_, rfl⟩
  have hb1 := Lib.hid (show Below w.heap.size w w1 by rw [hw1]; exact Wi.below_alloc _ _)
  have hP1 : PatAt w1 g note D deps.length dc A ops.length ac := by unfold PatAt; rw [hw1, hg]; exact heap_alloc_at _ _
  obtain ⟨R, hR⟩ : ∃ R, R = pright note deps ops := ⟨_, rfl⟩
  rw [← hR]
  have hno' := Lib.hid (fun (h : pfits note deps ops = false) => show R = false by rw [hR]; unfold pright; rw [h, Bool.false_and])
  have hDH := Lib.hid hD
  have hOH := Lib.hid hO
  have hdl := hD.2.2.1
  have hds := hD.2.2.2
  have hal := hO.2.1
  have hac := hO.1
  have hdc := hD.2.1
  obtain ⟨nd, hnd⟩ : ∃ nd, nd = deps.length := ⟨_, rfl⟩
  obtain ⟨no, hno⟩ : ∃ no, no = ops.length := ⟨_, rfl⟩
  rw [← hnd] at hw1 hP1 hdc hdl ⊢
  rw [← hno] at hw1 hP1 hac hal ⊢
  have hdsH := Lib.hid hds
  have hgw := Lib.hid (show w.heap.size ≤ g by rw [hg]; exact Nat.le_refl _)
  clear hds hD hO
  replace hR := Lib.hid hR
  replace hnd := Lib.hid hnd
  replace hno := Lib.hid hno
  replace hP1 := Lib.hid hP1
  obtain ⟨p0, p1, p2, _, _⟩ := blk3' hP1.out
  go_enter Tryz.func47, Tryz.ntmps47
  go_upto_region 1 with fail
  rw [← hw1, ← hg]
  replace hw1 := Lib.hid hw1
  replace hg := Lib.hid hg
  by_cases s1 : (100 : Int) < (note.size : Int)
  · have hf := Lib.hid (hno'.out (pfits_big (by omega)))
    go_wp2_with fail
    go_ret
    exact ⟨ret_b hf.out.symm, hb1.out⟩
  by_cases s2 : (64 : Int) < (nd : Int)
  · have hf := Lib.hid (hno'.out (pfits_big (by have := hnd.out; omega)))
    go_wp2_with fail
    go_ret
    exact ⟨ret_b hf.out.symm, hb1.out⟩
  by_cases s3 : (400 : Int) < (no : Int)
  · have hf := Lib.hid (hno'.out (pfits_big (by have := hno.out; omega)))
    go_wp2_with fail
    go_ret
    exact ⟨ret_b hf.out.symm, hb1.out⟩
  have hsizes := Lib.hid (show note.size ≤ 100 ∧ deps.length ≤ 64 ∧ ops.length ≤ 400 by have := hnd.out; have := hno.out; omega)
  have hnd64 : nd ≤ 64 := by omega
  have hno4 : no ≤ 400 := by omega
  go_upto_region 4 with fail
  clear s1 s2 s3 p0 p1 p2
  go_loopg [3] nd (fun g' i W => ∃ k : Nat, g' = nd - k ∧ k ≤ nd ∧ i = .int .i64 k ∧ (∀ j, j < k → okAt deps j = true) ∧ Below w1.heap.size w1 W)
  case atStart => exact ⟨0, rfl, by omega, rfl, fun j hj => absurd hj (by omega), Below.refl _ _⟩
  case round =>
    obtain ⟨k, hg', hk, rfl, hok, hb⟩ := hrel
    subst hg'
    have hPr := Lib.hid (show PatAt wr g note D nd dc A no ac from (hb.block _ (heap_lt hP1.out)).trans hP1.out)
    have hbH := Lib.hid (hb1.out.trans (hb.mono hb1.out.size))
    have hbH' := Lib.hid hb
    obtain ⟨p0, p1, p2, _, _⟩ := blk3' hPr.out
    by_cases hkn : k < nd
    · have hki : (k : Int) < (nd : Int) := by omega
      have hkl : k < deps.length := by rw [← hnd.out]; exact hkn
      obtain ⟨b, o, rfl, hcell⟩ := str_cell (Kd.C_below hDH.out.1 hbH.out) k hkl
      have hx := hdsH.out _ (getD_mem' deps k ByteArray.empty hkl)
      have CR := fun W => Lib.hid (rightRef (deps.getD k ByteArray.empty) W hx)
      have hok2 : okAt deps k = (rightL (deps.getD k ByteArray.empty).data.toList && (decide (k = 0) || Op.bytesLess (deps.getD (k - 1) ByteArray.empty).toList (deps.getD k ByteArray.empty).toList)) := rfl
      have hbad := Lib.hid (fun h => hno'.out (pfits_dep (note := note) (ops := ops) hkl h))
      have hprev : k ≠ 0 → wr.cell? ⟨b, o + (k - 1), none⟩ = some (.string (deps.getD (k - 1) ByteArray.empty)) := by
        intro h0
        obtain ⟨b1, o1, hA, hcell1⟩ := str_cell (Kd.C_below hDH.out.1 hbH.out) (k - 1) (by omega)
        injection hA with hA
        injection hA with hA1 hA2 _
        subst hA1 hA2
        exact hcell1
      generalize deps.getD k ByteArray.empty = x at *
      generalize hrx : rightL x.data.toList = rx at *
      clear hrx hx
      replace hprev := Lib.hid hprev
      have hokH := Lib.hid hok
      have hgl := Lib.hid hbH'.out.size
      clear hb hok
      have hA := Lib.hid p1
      have hB := Lib.hid hcell
      cases rx with
      | false =>
        have hbd := Lib.hid (hbad.out hok2)
        clear hbad hok2 hprev
        go_upto_region 6 with fail
        have hA3 := Lat.cell hA.out
        have hB3 := Lat.cell hB.out
        refine wp_region_lat (by kernel_rfl) (by kernel_rfl) ?_
        repeat (go_big_quiet_step ((go_at_call 81; exact lat_of (CR _).out)))
        refine wpQuiet_nil ?_
        intro _ hw'
        obtain ⟨xl, hw''⟩ := hw'
        subst hw''
        have hb4 := Lib.hid xl.below
        clear hA3 hB3
        go_wp2_with fail
        go_ret
        exact ⟨ret_b hbd.out.symm, hbH.out.trans (hb4.out.mono hbH.out.size)⟩
      | true =>
        by_cases hk0 : k = 0
        · subst hk0
          have hki0 : ¬ (0 : Int) < ((0 : Nat) : Int) := by omega
          have hko : okAt deps 0 = true := by rw [hok2]; rfl
          have hkoH := Lib.hid hko
          clear hko hok2 hbad hprev
          go_upto_region 6 with fail
          have hA3 := Lat.cell hA.out
          have hB3 := Lat.cell (show wr.cell? ⟨b, o, none⟩ = some (.string x) from hB.out)
          refine wp_region_lat (by kernel_rfl) (by kernel_rfl) ?_
          repeat (go_big_quiet_step ((go_at_call 81; exact lat_of (CR _).out)))
          refine wpQuiet_nil ?_
          intro _ hw'
          obtain ⟨xl, hw''⟩ := hw'
          subst hw''
          have hb4 := Lib.hid xl.below
          clear hA3 hB3
          all_goals (try go_wp2_with fail)
          go_roundg (nd - 1)
          case measure => omega
          case rel => exact ⟨1, rfl, by omega, by go_num, fun j hj => by rw [show j = 0 from by omega]; exact hkoH.out, hbH'.out.trans (hb4.out.mono hgl.out)⟩
        · have hki0 : (0 : Int) < (k : Int) := by omega
          have hkp0 : 0 < k := by omega
          have hkw : IntKind.i64.wrap ((k : Int) - 1) = ((k - 1 : Nat) : Int) := by rw [show (k : Int) - 1 = ((k - 1 : Nat) : Int) from by omega]; exact Lib.wrap_i64_small _ (by omega)
          have hk1 : ((k - 1 : Nat) : Int) < (nd : Int) := by omega
          have hp := Lib.hid (hprev.out hk0)
          generalize deps.getD (k - 1) ByteArray.empty = y at *
          rw [decide_eq_false hk0, Bool.false_or, Bool.true_and] at hok2
          have hle := le_lt x.toList y.toList
          obtain ⟨lt, hlt⟩ : ∃ lt, lt = Op.bytesLess y.toList x.toList := ⟨_, rfl⟩
          rw [← hlt] at hok2 hle
          replace hlt := Lib.hid hlt
          have hok2H := Lib.hid hok2
          clear hok2 hprev
          cases lt with
          | true =>
            simp only [Bool.not_true] at hle
            go_upto_region 6 with fail
            have hA3 := Lat.cell hA.out
            have hB3 := Lat.cell hB.out
            have hp3 := Lat.cell hp.out
            refine wp_region_lat (by kernel_rfl) (by kernel_rfl) ?_
            repeat (go_big_quiet_step ((go_at_call 81; exact lat_of (CR _).out)))
            refine wpQuiet_nil ?_
            intro _ hw'
            obtain ⟨xl, hw''⟩ := hw'
            subst hw''
            have hb4 := Lib.hid xl.below
            clear hA3 hB3 hp3
            all_goals (try go_wp2_with fail)
            all_goals go_roundg (nd - (k + 1))
            all_goals first | omega | exact ⟨k + 1, rfl, by omega, by go_num, fun j hj => by by_cases h : j < k; exact hokH.out j h; rw [show j = k from by omega]; exact hok2H.out, hbH'.out.trans (hb4.out.mono hgl.out)⟩
          | false =>
            simp only [Bool.not_false] at hle
            have hbd := Lib.hid (hbad.out hok2H.out)
            go_upto_region 6 with fail
            have hA3 := Lat.cell hA.out
            have hB3 := Lat.cell hB.out
            have hp3 := Lat.cell hp.out
            refine wp_region_lat (by kernel_rfl) (by kernel_rfl) ?_
            repeat (go_big_quiet_step ((go_at_call 81; exact lat_of (CR _).out)))
            refine wpQuiet_nil ?_
            intro _ hw'
            obtain ⟨xl, hw''⟩ := hw'
            subst hw''
            have hb4 := Lib.hid xl.below
            clear hA3 hB3 hp3
            all_goals (try go_wp2_with fail)
            all_goals go_ret
            all_goals exact ⟨ret_b hbd.out.symm, hbH.out.trans (hb4.out.mono hbH.out.size)⟩
    · have hkn' : k = nd := by omega
      subst hkn'
      have hki : ¬ (k : Int) < (k : Int) := by omega
      have hdep := Lib.hid (show ∀ j, j < deps.length → okAt deps j = true from fun j hj => hok j (by rw [hnd.out]; exact hj))
      clear hok hb
      obtain ⟨wa, hwa⟩ : ∃ wa, wa = wr := ⟨_, rfl⟩
      subst hwa
      go_upto_region 10 with fail
      clear p0 p1 p2
      have hba := Lib.hid hbH.out
      have hPa := Lib.hid hPr.out
      go_loopg [5, 4] no (fun g' i o W => ∃ j : Nat, g' = no - j ∧ j ≤ no ∧ i = .int .i64 j ∧ o = .int .i64 ((made (ops.take j) : Nat) : Int) ∧ (∀ m x, m < j → ops[m]? = some x → opOk (made (ops.take m)) deps.length x = true) ∧ Below wa.heap.size wa W)
      case atStart => exact ⟨0, rfl, by omega, rfl, rfl, fun m x hm => absurd hm (by omega), Below.refl _ _⟩
      case round =>
        obtain ⟨j, hg', hj, rfl, rfl, hok, hb⟩ := hrel
        subst hg'
        have hPr := Lib.hid (show PatAt wr g note D k dc A no ac from (hb.block _ (heap_lt hPa.out)).trans hPa.out)
        have hbH := Lib.hid (hba.out.trans (hb.mono hba.out.size))
        have hbH' := Lib.hid hb
        have hgl := Lib.hid hb.size
        have hokH := Lib.hid hok
        obtain ⟨p0, p1, p2, _, _⟩ := blk3' hPr.out
        obtain ⟨ow, how⟩ : ∃ ow, ow = made (ops.take j) := ⟨_, rfl⟩
        rw [← how]
        clear hok hb
        by_cases hjn : j < no
        · have hji : (j : Int) < (no : Int) := by omega
          obtain ⟨⟨kk, ka, km, kb, kn, kl⟩, ho⟩ : ∃ o, ops[j]? = some o := ⟨ops[j]'(by rw [← hno.out]; exact hjn), List.getElem?_eq_getElem _⟩
          obtain ⟨b, of, L, cl, hAe, o0, o1, o2, o3, o4, o5, hT⟩ := (hOH.out.below hbH.out).get j _ ho
          subst hAe
          have hTH := Lib.hid hT
          have hstep := made_step ops j _ ho
          have hmb := made_bound 140737488351232 (ops.take j) (fun o hoo => by
            obtain ⟨i, hi, rfl⟩ := List.getElem_of_mem (List.mem_of_mem_take hoo)
            obtain ⟨_, _, _, _, _, _, _, _, _, _, _, hTi⟩ := (hOH.out.below hbH.out).get i _ (List.getElem?_eq_getElem hi)
            exact hTi.2.2.1)
          have hlen := hT.2.2.1
          rw [← how] at hstep hmb
          have hbound : ow + kl.length ≤ 401 * 140737488351232 := by
            have : (ops.take j).length ≤ 400 := by rw [List.length_take]; omega
            have := Nat.mul_le_mul_right 140737488351232 this
            show ow + (Op.mk kk ka km kb kn kl).ls.length ≤ _
            omega
          have CO := Lib.hid (fun W (h : Below wr.heap.size wr W) => rop_c ow k kk ka km kb kn kl L cl W (hTH.out.below h))
          have hopb := Lib.hid (fun h => hno'.out (pfits_opb (note := note) (deps := deps) ho h))
          have hk' := Lib.hid hnd.out
          rw [← how] at hopb
          have hstepH := Lib.hid hstep
          have hoH := Lib.hid ho
          obtain ⟨nl, hnl⟩ : ∃ nl, nl = kl.length := ⟨_, rfl⟩
          have o5' : wr.cell? ⟨b, of + j * 6 + 5, none⟩ = some (.slice L nl cl) := by rw [hnl]; exact o5
          rw [← hnl] at CO hbound
          have hwr : IntKind.i64.wrap ((ow : Int) + (nl : Int)) = ((ow + nl : Nat) : Int) := by rw [show (ow : Int) + (nl : Int) = ((ow + nl : Nat) : Int) from by omega]; exact Lib.wrap_i64_small _ (by omega)
          have howH := Lib.hid how
          replace hnl := Lib.hid hnl
          clear o5 hT hmb hlen hstep ho how
          obtain ⟨rv, hrv⟩ : ∃ rv, rv = opOk (ow : Int) (k : Int) ⟨kk, ka, km, kb, kn, kl⟩ := ⟨_, rfl⟩
          rw [← hrv] at CO
          go_upto_region 12 with fail
          have a1 := Lat.cell p1
          have a2 := Lat.cell p2
          have b0 := Lat.cell o0
          have b1 := Lat.cell o1
          have b2 := Lat.cell o2
          have b3 := Lat.cell o3
          have b4 := Lat.cell o4
          have b5 := Lat.cell o5'
          replace hrv := Lib.hid hrv
          have LO := Lib.hid (fun x : Lat wr => lat_of (CO.out _ x.below))
          clear p0 p1 p2 o1 o2 o3 o4
          have o0H := Lib.hid o0
          have o5H := Lib.hid o5'
          clear o0 o5' CO
          refine wp_region_lat (by kernel_rfl) (by kernel_rfl) ?_
          repeat (go_big_quiet_step (fail))
          go_big_quiet_step ((go_at_call 82; exact LO.out _))
          repeat (go_big_quiet_step (fail))
          refine wpQuiet_nil ?_
          intro _ hw'
          obtain ⟨xl, hw''⟩ := hw'
          subst hw''
          have hb4 := Lib.hid xl.below
          clear a1 a2 b0 b1 b2 b3 b4 b5
          have hP4 := Lib.hid (show PatAt xl.val g note D k dc (some ⟨b, of, none⟩) no ac from (hb4.out.block _ (heap_lt hPr.out)).trans hPr.out)
          obtain ⟨p0, p1, p2, _, _⟩ := blk3' hP4.out
          have o0 := keepc hb4.out o0H.out
          have o5' := keepc hb4.out o5H.out
          cases rv with
          | false =>
            have hf := Lib.hid (hopb.out (by rw [← hk'.out]; exact hrv.out.symm))
            go_wp2_with fail
            go_ret
            exact ⟨ret_b hf.out.symm, hbH.out.trans (hb4.out.mono hbH.out.size)⟩
          | true =>
            have okNext := Lib.hid (show ∀ m x, m < j + 1 → ops[m]? = some x → opOk (made (ops.take m)) deps.length x = true from fun m o hm ho => by
              by_cases e : m < j
              · exact hokH.out m o e ho
              · obtain rfl : m = j := by omega
                obtain rfl := Option.some.inj (hoH.out.symm.trans ho)
                rw [← hk'.out, ← howH.out]
                exact hrv.out.symm)
            by_cases hk1 : kk = 1
            · subst hk1
              have hm1 := Lib.hid (show made (ops.take (j + 1)) = ow + nl by rw [hstepH.out, hnl.out]; rfl)
              go_wp2_with fail
              go_roundg (no - (j + 1))
              all_goals first | omega | exact ⟨j + 1, rfl, by omega, by go_num, by rw [hm1.out]; first | rfl | (congr 1; omega), okNext.out, hbH'.out.trans (hb4.out.mono hgl.out)⟩
            · have e1 : (kk == 1) = false := by rw [beq_eq_false_iff_ne]; exact hk1
              have hm1 := Lib.hid (show made (ops.take (j + 1)) = ow by rw [hstepH.out]; show ow + (if kk = 1 then kl.length else 0) = ow; rw [if_neg hk1]; rfl)
              clear hk1
              go_wp2_with fail
              go_roundg (no - (j + 1))
              all_goals first | omega | exact ⟨j + 1, rfl, by omega, by go_num, by rw [hm1.out], okNext.out, hbH'.out.trans (hb4.out.mono hgl.out)⟩
        · have hjn' : j = no := by omega
          subst hjn'
          have hji : ¬ (j : Int) < (j : Int) := by omega
          have hgood := Lib.hid (pfits_good hsizes.out hdep.out (fun m o ho => hokH.out m o (by rw [hno.out]; exact (List.getElem?_eq_some_iff.1 ho).1) ho))
          rw [List.take_of_length_le (by rw [← hno.out]; exact Nat.le_refl _)] at how
          replace how := Lib.hid how
          by_cases h3 : (300 : Int) < (ow : Int)
          · have hf := Lib.hid (hno'.out (by rw [hgood.out, ← how.out]; simp; omega))
            go_wp2_with fail
            go_ret
            exact ⟨ret_b hf.out.symm, hbH.out⟩
          · have hfit : pfits note deps ops = true := by rw [hgood.out, ← how.out]; simp; omega
            have hpl := Lib.hid (pbytes_len hfit)
            have hRv := Lib.hid (show R = decide ((pform note deps ops).bytes.length ≤ 65536) by rw [hR.out]; unfold pright; rw [hfit, Bool.true_and]; rfl)
            have CF := rform_c note D dc deps A ac ops wr (hDH.out.below hbH.out) (hOH.out.below hbH.out) hfit
            rw [← hnd.out, ← hno.out] at CF
            replace CF := Lib.hid CF
            clear hfit
            go_upto_region 18 with fail
            go_wp2_with fail
            refine (CF.out).mono ?_
            rintro ev w5 ⟨q, n, c, rfl, hFK, hb5⟩
            have hV5 := FK.toFV (B := w5.heap.size) (fun b ⟨_, h⟩ => h) _ _ hFK
            have hb5H := Lib.hid (hbH.out.trans (hb5.mono hbH.out.size))
            have CWo := Lib.hid (fun h => rwrite_c (pform note deps ops) _ _ _ w5 hV5 (pform_right _ _ _) (by have := pform_depth note deps ops; omega) h)
            have CWb := Lib.hid (fun h => rwrite_big (pform note deps ops) _ _ _ w5 hV5 (pform_right _ _ _) (by have := pform_depth note deps ops; omega) h (by have : (pform note deps ops).bytes.length ≤ 300000 := hpl.out; omega))
            clear hFK hV5 hb5
            by_cases hsz : (pform note deps ops).bytes.length ≤ 65536
            · have CW := Lib.hid (CWo.out hsz)
              have hRt := Lib.hid (show R = true by rw [hRv.out, decide_eq_true hsz])
              clear hsz CWo CWb
              generalize (⟨(pform note deps ops).bytes.toArray⟩ : ByteArray) = tx at CW
              go_wp2_with fail
              refine (CW.out).mono ?_
              rintro ev w6 ⟨rfl, hb6⟩
              have hb6H := Lib.hid (hb5H.out.trans (hb6.mono hb5H.out.size))
              clear hb6
              go_wp2_with fail
              go_ret
              exact ⟨ret_b hRt.out.symm, hb6H.out⟩
            · have CW := Lib.hid (CWb.out (by omega))
              have hRt := Lib.hid (show R = false by rw [hRv.out, decide_eq_false hsz])
              clear hsz CWo CWb
              go_wp2_with fail
              refine (CW.out).mono ?_
              rintro ev w6 ⟨rfl, hb6⟩
              have hb6H := Lib.hid (hb5H.out.trans (hb6.mono hb5H.out.size))
              clear hb6
              go_wp2_with fail
              go_ret
              exact ⟨ret_b hRt.out.symm, hb6H.out⟩
end Go.Proofs.YtbiioaggilaebaaGreatDoor.Pa
set_option linter.unusedVariables false
set_option linter.unusedSimpArgs false
namespace Go.Proofs.YtbiioaggilaebaaGreatDoor.Pa
open Go Go.RowKit Go.Proofs.YtbiioaggilaebaaGreatDoorW.PrintWords Go.Proofs.YtbiioaggilaebaaGreatDoor.B Go.Proofs.YtbiioaggilaebaaGreatDoor.Tm Go.Proofs.YtbiioaggilaebaaGreatDoor.Wi
def rwrOf (note : ByteArray) (deps : List ByteArray) (ops : List Op) : Value :=
  if pright note deps ops then .tuple #[.string ⟨(pbytes note deps ops).toArray⟩, .int .i64 0] else .tuple #[.string ⟨#[]⟩, .int .i64 10]
def rnmOf (note : ByteArray) (deps : List ByteArray) (ops : List Op) : Value :=
  if pright note deps ops then .tuple #[.string (pname note deps ops), .int .i64 0] else .tuple #[.string ⟨#[]⟩, .int .i64 10]
theorem pright_fits {note : ByteArray} {deps : List ByteArray} {ops : List Op} (h : pright note deps ops = true) : pfits note deps ops = true := by
  unfold pright at h
  rw [Bool.and_eq_true] at h
  exact h.1
set_option maxRecDepth 100000 in
set_option maxHeartbeats 8000000 in
theorem rwrite5_c (note : ByteArray) (D : Option Addr) (dc : Nat) (deps : List ByteArray) (A : Option Addr) (ac : Nat) (ops : List Op) (w : World) (hD : TxAt w D dc deps) (hO : OpsAt w A ac ops) :
    Calls Tryz.prog 16 #[.agg #[.string note, .slice D deps.length dc, .slice A ops.length ac]] w fun e w' => e = .returned (rwrOf note deps ops) ∧ Below w.heap.size w w' := by
  obtain ⟨w1, hw1⟩ : ∃ w1, w1 = w.alloc (.cells #[.string note, .slice D deps.length dc, .slice A ops.length ac] 25) := ⟨_, rfl⟩
  have hb1 := Lib.hid (show Below w.heap.size w w1 by rw [hw1]; exact Wi.below_alloc _ _)
  have hP1 : PatAt w1 w.heap.size note D deps.length dc A ops.length ac := by unfold PatAt; rw [hw1]; exact heap_alloc_at _ _
  have CR := rright5_c note D dc deps A ac ops w1 (hD.below hb1.out) (hO.below hb1.out)
  have CF := fun (h : pfits note deps ops = true) W (hW : Below w.heap.size w W) => Lib.hid (rform_c note D dc deps A ac ops W (hD.below hW) (hO.below hW) h)
  obtain ⟨R, hR⟩ : ∃ R, R = rwrOf note deps ops := ⟨_, rfl⟩
  rw [← hR]
  obtain ⟨nd, hnd⟩ : ∃ nd, nd = deps.length := ⟨_, rfl⟩
  obtain ⟨no, hno⟩ : ∃ no, no = ops.length := ⟨_, rfl⟩
  rw [← hnd, ← hno] at hw1 hP1 CR CF ⊢
  replace hnd := Lib.hid hnd
  replace hno := Lib.hid hno
  obtain ⟨p0, p1, p2, _, _⟩ := blk3' hP1
  replace hP1 := Lib.hid hP1
  clear hD hO
  unfold rwrOf at hR
  cases hr : pright note deps ops with
  | false =>
    rw [hr] at CR hR
    simp only [Bool.false_eq_true, if_false] at hR
    replace CR := Lib.hid CR
    replace hR := Lib.hid hR
    clear hr CF
    go_enter Tryz.func16, Tryz.ntmps16
    go_upto_region 1 with fail
    rw [← hw1]
    replace hw1 := Lib.hid hw1
    go_wp2_with fail
    refine (CR.out).mono ?_
    rintro ev w2 ⟨rfl, hb2⟩
    replace hb2 := Lib.hid (hb1.out.trans (hb2.mono hb1.out.size))
    go_wp2_with fail
    go_ret2
    exact ⟨by rw [hR.out]; rfl, hb2.out⟩
  | true =>
    have hl := Lib.hid (show (pform note deps ops).bytes.length ≤ 65536 from pright_len hr)
    replace CF := Lib.hid (fun W hW => (CF (pright_fits hr) W hW).out)
    rw [hr] at CR hR
    simp only [if_true] at hR
    replace CR := Lib.hid CR
    have hR' : R = .tuple #[.string ⟨(pform note deps ops).bytes.toArray⟩, .int .i64 0] := hR
    replace hR := Lib.hid hR'
    clear hr hR'
    go_enter Tryz.func16, Tryz.ntmps16
    go_upto_region 1 with fail
    rw [← hw1]
    replace hw1 := Lib.hid hw1
    go_wp2_with fail
    refine (CR.out).mono ?_
    rintro ev w2 ⟨rfl, hb2⟩
    have hP2 := Lib.hid (show PatAt w2 w.heap.size note D nd dc A no ac from (hb2.block _ (heap_lt hP1.out)).trans hP1.out)
    replace hb2 := Lib.hid (hb1.out.trans (hb2.mono hb1.out.size))
    clear p0 p1 p2
    obtain ⟨p0, p1, p2, _, _⟩ := blk3' hP2.out
    go_upto_region 3 with fail
    go_wp2_with fail
    refine (CF.out w2 hb2.out).mono ?_
    rintro ev w5 ⟨q, n, c, rfl, hFK, hb5⟩
    have hV5 := FK.toFV (B := w5.heap.size) (fun b ⟨_, h⟩ => h) _ _ hFK
    have hb5H := Lib.hid (hb2.out.trans (hb5.mono hb2.out.size))
    have CW := Lib.hid (rwrite_c (pform note deps ops) _ _ _ w5 hV5 (pform_right _ _ _) (by have := pform_depth note deps ops; omega) hl.out)
    clear hFK hV5 hb5
    obtain ⟨tx, htx⟩ : ∃ tx : ByteArray, tx = ⟨(pform note deps ops).bytes.toArray⟩ := ⟨_, rfl⟩
    rw [← htx] at CW hR
    replace htx := Lib.hid htx
    go_wp2_with fail
    refine (CW.out).mono ?_
    rintro ev w6 ⟨rfl, hb6⟩
    have hb6H := Lib.hid (hb5H.out.trans (hb6.mono hb5H.out.size))
    clear hb6
    go_wp2_with fail
    go_ret2
    exact ⟨by rw [hR.out]; rfl, hb6H.out⟩
set_option maxRecDepth 100000 in
set_option maxHeartbeats 8000000 in
theorem rname5_c (note : ByteArray) (D : Option Addr) (dc : Nat) (deps : List ByteArray) (A : Option Addr) (ac : Nat) (ops : List Op) (w : World) (hD : TxAt w D dc deps) (hO : OpsAt w A ac ops) :
    Calls Tryz.prog 17 #[.agg #[.string note, .slice D deps.length dc, .slice A ops.length ac]] w fun e w' => e = .returned (rnmOf note deps ops) ∧ Below w.heap.size w w' := by
  obtain ⟨w1, hw1⟩ : ∃ w1, w1 = w.alloc (.cells #[.string note, .slice D deps.length dc, .slice A ops.length ac] 25) := ⟨_, rfl⟩
  have hb1 := Lib.hid (show Below w.heap.size w w1 by rw [hw1]; exact Wi.below_alloc _ _)
  have hP1 : w1.heap[w.heap.size]? = some (.cells #[.string note, .slice D deps.length dc, .slice A ops.length ac] 25 (0, 0)) := by rw [hw1]; exact heap_alloc_at _ _
  have CW := rwrite5_c note D dc deps A ac ops w1 (hD.below hb1.out) (hO.below hb1.out)
  obtain ⟨R, hR⟩ : ∃ R, R = rnmOf note deps ops := ⟨_, rfl⟩
  rw [← hR]
  obtain ⟨nd, hnd⟩ : ∃ nd, nd = deps.length := ⟨_, rfl⟩
  obtain ⟨no, hno⟩ : ∃ no, no = ops.length := ⟨_, rfl⟩
  rw [← hnd, ← hno] at hw1 hP1 CW ⊢
  replace hnd := Lib.hid hnd
  replace hno := Lib.hid hno
  obtain ⟨p0, p1, p2, _, _⟩ := blk3' hP1
  clear hD hO hP1
  unfold rnmOf at hR
  unfold rwrOf at CW
  cases hr : pright note deps ops with
  | false =>
    rw [hr] at CW hR
    simp only [Bool.false_eq_true, if_false] at CW hR
    replace CW := Lib.hid CW
    replace hR := Lib.hid hR
    clear hr
    go_enter Tryz.func17, Tryz.ntmps17
    go_upto_region 1 with fail
    rw [← hw1]
    replace hw1 := Lib.hid hw1
    go_wp2_with fail
    refine (CW.out).mono ?_
    rintro ev w2 ⟨rfl, hb2⟩
    replace hb2 := Lib.hid (hb1.out.trans (hb2.mono hb1.out.size))
    go_wp2_with fail
    go_ret2
    exact ⟨by rw [hR.out]; rfl, hb2.out⟩
  | true =>
    rw [hr] at CW hR
    simp only [if_true] at CW hR
    obtain ⟨s, hs⟩ : ∃ s : ByteArray, s = ⟨(pbytes note deps ops).toArray⟩ := ⟨_, rfl⟩
    rw [← hs] at CW
    have hsl : s.data.toList = pbytes note deps ops := by rw [hs]
    have hss : s.size ≤ 65536 := by rw [← toList_size, hsl]; exact pright_len hr
    have CS := fun W => Lib.hid (Ref.RSum_any s (by omega) W)
    have CH := fun W => Lib.hid (Dig.rHex_any (Sha.sha Sha.K Sha.H0 s) (by rw [Sha.sha_size]; omega) W)
    have hnm : (⟨(Sha.hexL (Sha.sha Sha.K Sha.H0 s).data.toList).toArray⟩ : ByteArray) = pname note deps ops := by
      unfold pname Sha.nameL Sha.sha
      rw [hsl, List.toList_toArray]
    rw [hnm] at CH
    generalize Sha.sha Sha.K Sha.H0 s = d at *
    replace CW := Lib.hid CW
    replace hR := Lib.hid hR
    replace hs := Lib.hid hs
    clear hr hsl hss hnm
    generalize pname note deps ops = nm at *
    go_enter Tryz.func17, Tryz.ntmps17
    go_upto_region 1 with fail
    rw [← hw1]
    replace hw1 := Lib.hid hw1
    go_wp2_with fail
    refine (CW.out).mono ?_
    rintro ev w2 ⟨rfl, hb2⟩
    replace hb2 := Lib.hid (hb1.out.trans (hb2.mono hb1.out.size))
    go_wp2_with fail
    refine ((CS w2).out).mono ?_
    rintro ev w3 ⟨rfl, ht⟩
    have hb3 := Lib.hid (hb2.out.trans ((tch_bel ht).mono hb2.out.size))
    clear ht
    go_wp2_with fail
    refine ((CH w3).out).mono ?_
    rintro ev w4 ⟨rfl, ht⟩
    have hb4 := Lib.hid (hb3.out.trans ((tch_bel ht).mono hb3.out.size))
    clear ht
    go_wp2_with fail
    go_ret2
    exact ⟨by rw [hR.out]; rfl, hb4.out⟩
end Go.Proofs.YtbiioaggilaebaaGreatDoor.Pa
set_option linter.unusedVariables false
set_option linter.unusedSimpArgs false
namespace Go.Proofs.YtbiioaggilaebaaGreatDoor.Pa
open Go Go.RowKit Go.Proofs.YtbiioaggilaebaaGreatDoorW.PrintWords Go.Proofs.YtbiioaggilaebaaGreatDoor.B Go.Proofs.YtbiioaggilaebaaGreatDoor.Tm Go.Proofs.YtbiioaggilaebaaGreatDoor.Wi
def com (note : ByteArray) (deps : List ByteArray) (ops : List Op) (note' : ByteArray) (deps' : List ByteArray) (ops' : List Op) : Bool :=
  pright note deps ops && (pright note' deps' ops' && (decide (place deps (pname note' deps' ops') < 0) && decide (place deps' (pname note deps ops) < 0)))
theorem com_comm (note : ByteArray) (deps : List ByteArray) (ops : List Op) (note' : ByteArray) (deps' : List ByteArray) (ops' : List Op) : com note deps ops note' deps' ops' = com note' deps' ops' note deps ops := by
  unfold com
  generalize decide (place deps (pname note' deps' ops') < 0) = x
  generalize decide (place deps' (pname note deps ops) < 0) = y
  generalize pright note deps ops = r1
  generalize pright note' deps' ops' = r2
  cases x <;> cases y <;> cases r1 <;> cases r2 <;> rfl
set_option maxRecDepth 100000 in
set_option maxHeartbeats 16000000 in
theorem commute_c (note : ByteArray) (D : Option Addr) (dc : Nat) (deps : List ByteArray) (A : Option Addr) (ac : Nat) (ops : List Op) (note' : ByteArray) (D' : Option Addr) (dc' : Nat) (deps' : List ByteArray) (A' : Option Addr) (ac' : Nat) (ops' : List Op) (w : World) (hD : TxAt w D dc deps) (hO : OpsAt w A ac ops) (hD' : TxAt w D' dc' deps') (hO' : OpsAt w A' ac' ops') (htab : Tab w) (hgB : 2 < w.heap.size) :
    Calls Tryz.prog 13 #[.agg #[.string note, .slice D deps.length dc, .slice A ops.length ac], .agg #[.string note', .slice D' deps'.length dc', .slice A' ops'.length ac']] w fun e w' => e = .returned (.bool (com note deps ops note' deps' ops')) ∧ Below w.heap.size w w' := by
  obtain ⟨w1, hw1⟩ : ∃ w1, w1 = w.alloc (.cells #[.string note, .slice D deps.length dc, .slice A ops.length ac] 25) := ⟨_, rfl⟩
  obtain ⟨w2, hw2⟩ : ∃ w2, w2 = w1.alloc (.cells #[.string note', .slice D' deps'.length dc', .slice A' ops'.length ac'] 25) := ⟨_, rfl⟩
  have hs1 : w1.heap.size = w.heap.size + 1 := by rw [hw1]; simp
  have hb2 := Lib.hid (show Below w.heap.size w w2 by rw [hw2, hw1]; exact ((Below.refl _ _).alloc (Nat.le_refl _) _).alloc (by simp) _)
  have hP1 : PatAt w1 w.heap.size note D deps.length dc A ops.length ac := by unfold PatAt; rw [hw1]; exact heap_alloc_at _ _
  have hP2 : PatAt w2 w.heap.size note D deps.length dc A ops.length ac := by unfold PatAt; rw [hw2]; exact (heap_alloc_lt _ _ _ (heap_lt hP1)).trans hP1
  have hQ2 : PatAt w2 (w.heap.size + 1) note' D' deps'.length dc' A' ops'.length ac' := by unfold PatAt; rw [hw2, ← hs1]; exact heap_alloc_at _ _
  have C1 := fun W (h : Below w.heap.size w W) => pname_c note D dc deps A ac ops W (hD.below h) (hO.below h) (htab.keep h hgB) (Nat.lt_of_lt_of_le hgB h.size)
  have C2 := fun W (h : Below w.heap.size w W) => pname_c note' D' dc' deps' A' ac' ops' W (hD'.below h) (hO'.below h) (htab.keep h hgB) (Nat.lt_of_lt_of_le hgB h.size)
  have K1 := fun s W (h : Below w.heap.size w W) => contains_c D dc deps s W (hD.below h)
  have K2 := fun s W (h : Below w.heap.size w W) => contains_c D' dc' deps' s W (hD'.below h)
  obtain ⟨R, hR⟩ : ∃ R, R = com note deps ops note' deps' ops' := ⟨_, rfl⟩
  rw [← hR]
  unfold com at hR
  unfold nmOf at C1 C2
  generalize pname note deps ops = na at *
  generalize pname note' deps' ops' = nb at *
  obtain ⟨x1, hx1⟩ : ∃ x, x = place deps nb := ⟨_, rfl⟩
  obtain ⟨x2, hx2⟩ : ∃ x, x = place deps' na := ⟨_, rfl⟩
  have K1' := fun W h => K1 nb W h
  have K2' := fun W h => K2 na W h
  rw [← hx1] at K1' hR
  rw [← hx2] at K2' hR
  generalize deps.length = nd at *
  generalize deps'.length = nd' at *
  generalize ops.length = no at *
  generalize ops'.length = no' at *
  generalize pright note deps ops = r1 at *
  generalize pright note' deps' ops' = r2 at *
  replace hP2 := Lib.hid hP2
  replace hQ2 := Lib.hid hQ2
  replace hR := Lib.hid hR
  replace hx1 := Lib.hid hx1
  replace hx2 := Lib.hid hx2
  replace K1' := Lib.hid K1'
  replace K2' := Lib.hid K2'
  clear hD hO hD' hO' hP1 K1 K2 htab hgB
  obtain ⟨p0, p1, p2, _, _⟩ := blk3' hP2.out
  obtain ⟨q0, q1, q2, _, _⟩ := blk3' hQ2.out
  cases r1 <;> cases r2
  · simp only [Bool.false_eq_true, if_false, if_true] at C1 C2
    replace C1 := Lib.hid C1
    replace C2 := Lib.hid C2
    go_enter Tryz.func13, Tryz.ntmps13
    go_upto_region 1 with fail
    rw [← hw1]
    try rw [hs1]
    rw [← hw2]
    replace hw1 := Lib.hid hw1
    replace hw2 := Lib.hid hw2
    replace hs1 := Lib.hid hs1
    go_wp2_with fail
    refine (C1.out w2 hb2.out).mono ?_
    rintro ev w3 ⟨rfl, hb⟩
    have hb3 := Lib.hid (hb2.out.trans (hb.mono hb2.out.size))
    have hP3 := Lib.hid (show PatAt w3 w.heap.size note D nd dc A no ac from (hb.block _ (heap_lt hP2.out)).trans hP2.out)
    have hQ3 := Lib.hid (show PatAt w3 (w.heap.size + 1) note' D' nd' dc' A' no' ac' from (hb.block _ (heap_lt hQ2.out)).trans hQ2.out)
    clear hb p0 p1 p2 q0 q1 q2
    obtain ⟨q0, q1, q2, _, _⟩ := blk3' hQ3.out
    go_wp2_with fail
    refine (C2.out w3 hb3.out).mono ?_
    rintro ev w4 ⟨rfl, hb⟩
    have hb4 := Lib.hid (hb3.out.trans (hb.mono hb3.out.size))
    have hP4 := Lib.hid (show PatAt w4 w.heap.size note D nd dc A no ac from (hb.block _ (heap_lt hP3.out)).trans hP3.out)
    have hQ4 := Lib.hid (show PatAt w4 (w.heap.size + 1) note' D' nd' dc' A' no' ac' from (hb.block _ (heap_lt hQ3.out)).trans hQ3.out)
    clear hb q0 q1 q2
    obtain ⟨p0, p1, p2, _, _⟩ := blk3' hP4.out
    obtain ⟨q0, q1, q2, _, _⟩ := blk3' hQ4.out
    go_wp2_with fail
    go_ret
    exact ⟨ret_b (by rw [hR.out]; simp), hb4.out⟩
  · simp only [Bool.false_eq_true, if_false, if_true] at C1 C2
    replace C1 := Lib.hid C1
    replace C2 := Lib.hid C2
    go_enter Tryz.func13, Tryz.ntmps13
    go_upto_region 1 with fail
    rw [← hw1]
    try rw [hs1]
    rw [← hw2]
    replace hw1 := Lib.hid hw1
    replace hw2 := Lib.hid hw2
    replace hs1 := Lib.hid hs1
    go_wp2_with fail
    refine (C1.out w2 hb2.out).mono ?_
    rintro ev w3 ⟨rfl, hb⟩
    have hb3 := Lib.hid (hb2.out.trans (hb.mono hb2.out.size))
    have hP3 := Lib.hid (show PatAt w3 w.heap.size note D nd dc A no ac from (hb.block _ (heap_lt hP2.out)).trans hP2.out)
    have hQ3 := Lib.hid (show PatAt w3 (w.heap.size + 1) note' D' nd' dc' A' no' ac' from (hb.block _ (heap_lt hQ2.out)).trans hQ2.out)
    clear hb p0 p1 p2 q0 q1 q2
    obtain ⟨q0, q1, q2, _, _⟩ := blk3' hQ3.out
    go_wp2_with fail
    refine (C2.out w3 hb3.out).mono ?_
    rintro ev w4 ⟨rfl, hb⟩
    have hb4 := Lib.hid (hb3.out.trans (hb.mono hb3.out.size))
    have hP4 := Lib.hid (show PatAt w4 w.heap.size note D nd dc A no ac from (hb.block _ (heap_lt hP3.out)).trans hP3.out)
    have hQ4 := Lib.hid (show PatAt w4 (w.heap.size + 1) note' D' nd' dc' A' no' ac' from (hb.block _ (heap_lt hQ3.out)).trans hQ3.out)
    clear hb q0 q1 q2
    obtain ⟨p0, p1, p2, _, _⟩ := blk3' hP4.out
    obtain ⟨q0, q1, q2, _, _⟩ := blk3' hQ4.out
    go_wp2_with fail
    go_ret
    exact ⟨ret_b (by rw [hR.out]; simp), hb4.out⟩
  · simp only [Bool.false_eq_true, if_false, if_true] at C1 C2
    replace C1 := Lib.hid C1
    replace C2 := Lib.hid C2
    go_enter Tryz.func13, Tryz.ntmps13
    go_upto_region 1 with fail
    rw [← hw1]
    try rw [hs1]
    rw [← hw2]
    replace hw1 := Lib.hid hw1
    replace hw2 := Lib.hid hw2
    replace hs1 := Lib.hid hs1
    go_wp2_with fail
    refine (C1.out w2 hb2.out).mono ?_
    rintro ev w3 ⟨rfl, hb⟩
    have hb3 := Lib.hid (hb2.out.trans (hb.mono hb2.out.size))
    have hP3 := Lib.hid (show PatAt w3 w.heap.size note D nd dc A no ac from (hb.block _ (heap_lt hP2.out)).trans hP2.out)
    have hQ3 := Lib.hid (show PatAt w3 (w.heap.size + 1) note' D' nd' dc' A' no' ac' from (hb.block _ (heap_lt hQ2.out)).trans hQ2.out)
    clear hb p0 p1 p2 q0 q1 q2
    obtain ⟨q0, q1, q2, _, _⟩ := blk3' hQ3.out
    go_wp2_with fail
    refine (C2.out w3 hb3.out).mono ?_
    rintro ev w4 ⟨rfl, hb⟩
    have hb4 := Lib.hid (hb3.out.trans (hb.mono hb3.out.size))
    have hP4 := Lib.hid (show PatAt w4 w.heap.size note D nd dc A no ac from (hb.block _ (heap_lt hP3.out)).trans hP3.out)
    have hQ4 := Lib.hid (show PatAt w4 (w.heap.size + 1) note' D' nd' dc' A' no' ac' from (hb.block _ (heap_lt hQ3.out)).trans hQ3.out)
    clear hb q0 q1 q2
    obtain ⟨p0, p1, p2, _, _⟩ := blk3' hP4.out
    obtain ⟨q0, q1, q2, _, _⟩ := blk3' hQ4.out
    go_wp2_with fail
    go_ret
    exact ⟨ret_b (by rw [hR.out]; simp), hb4.out⟩
  · simp only [Bool.false_eq_true, if_false, if_true] at C1 C2
    replace C1 := Lib.hid C1
    replace C2 := Lib.hid C2
    go_enter Tryz.func13, Tryz.ntmps13
    go_upto_region 1 with fail
    rw [← hw1]
    try rw [hs1]
    rw [← hw2]
    replace hw1 := Lib.hid hw1
    replace hw2 := Lib.hid hw2
    replace hs1 := Lib.hid hs1
    go_wp2_with fail
    refine (C1.out w2 hb2.out).mono ?_
    rintro ev w3 ⟨rfl, hb⟩
    have hb3 := Lib.hid (hb2.out.trans (hb.mono hb2.out.size))
    have hP3 := Lib.hid (show PatAt w3 w.heap.size note D nd dc A no ac from (hb.block _ (heap_lt hP2.out)).trans hP2.out)
    have hQ3 := Lib.hid (show PatAt w3 (w.heap.size + 1) note' D' nd' dc' A' no' ac' from (hb.block _ (heap_lt hQ2.out)).trans hQ2.out)
    clear hb p0 p1 p2 q0 q1 q2
    obtain ⟨q0, q1, q2, _, _⟩ := blk3' hQ3.out
    go_wp2_with fail
    refine (C2.out w3 hb3.out).mono ?_
    rintro ev w4 ⟨rfl, hb⟩
    have hb4 := Lib.hid (hb3.out.trans (hb.mono hb3.out.size))
    have hP4 := Lib.hid (show PatAt w4 w.heap.size note D nd dc A no ac from (hb.block _ (heap_lt hP3.out)).trans hP3.out)
    have hQ4 := Lib.hid (show PatAt w4 (w.heap.size + 1) note' D' nd' dc' A' no' ac' from (hb.block _ (heap_lt hQ3.out)).trans hQ3.out)
    clear hb q0 q1 q2
    obtain ⟨p0, p1, p2, _, _⟩ := blk3' hP4.out
    obtain ⟨q0, q1, q2, _, _⟩ := blk3' hQ4.out
    by_cases h1 : x1 < 0
    · have h1H := Lib.hid h1
      have e1 : decide (0 ≤ x1) = false := by simp; omega
      go_wp2_with fail
      refine (K1'.out w4 hb4.out).mono ?_
      rintro ev w5 ⟨rfl, hb⟩
      have hb5 := Lib.hid (hb4.out.trans (hb.mono hb4.out.size))
      have hQ5 := Lib.hid (show PatAt w5 (w.heap.size + 1) note' D' nd' dc' A' no' ac' from (hb.block _ (heap_lt hQ4.out)).trans hQ4.out)
      clear hb p0 p1 p2 q0 q1 q2
      obtain ⟨q0, q1, q2, _, _⟩ := blk3' hQ5.out
      go_wp2_with fail
      refine (K2'.out w5 hb5.out).mono ?_
      rintro ev w6 ⟨rfl, hb⟩
      have hb6 := Lib.hid (hb5.out.trans (hb.mono hb5.out.size))
      clear hb
      go_wp2_with fail
      go_ret
      exact ⟨ret_b (by rw [hR.out, decide_eq_true (show x1 < 0 by have := h1H.out; omega), Bool.eq_iff_iff]; simp), hb6.out⟩
    · have h1H := Lib.hid h1
      have e1 : decide (0 ≤ x1) = true := by simp; omega
      go_wp2_with fail
      refine (K1'.out w4 hb4.out).mono ?_
      rintro ev w5 ⟨rfl, hb⟩
      have hb5 := Lib.hid (hb4.out.trans (hb.mono hb4.out.size))
      clear hb
      go_wp2_with fail
      go_ret
      exact ⟨ret_b (by rw [hR.out, decide_eq_false (show ¬ x1 < 0 by have := h1H.out; omega), Bool.eq_iff_iff]; simp), hb5.out⟩
set_option maxRecDepth 100000 in
set_option maxHeartbeats 16000000 in
theorem rcommute_c (note : ByteArray) (D : Option Addr) (dc : Nat) (deps : List ByteArray) (A : Option Addr) (ac : Nat) (ops : List Op) (note' : ByteArray) (D' : Option Addr) (dc' : Nat) (deps' : List ByteArray) (A' : Option Addr) (ac' : Nat) (ops' : List Op) (w : World) (hD : TxAt w D dc deps) (hO : OpsAt w A ac ops) (hD' : TxAt w D' dc' deps') (hO' : OpsAt w A' ac' ops') :
    Calls Tryz.prog 14 #[.agg #[.string note, .slice D deps.length dc, .slice A ops.length ac], .agg #[.string note', .slice D' deps'.length dc', .slice A' ops'.length ac']] w fun e w' => e = .returned (.bool (com note deps ops note' deps' ops')) ∧ Below w.heap.size w w' := by
  obtain ⟨w1, hw1⟩ : ∃ w1, w1 = w.alloc (.cells #[.string note, .slice D deps.length dc, .slice A ops.length ac] 25) := ⟨_, rfl⟩
  obtain ⟨w2, hw2⟩ : ∃ w2, w2 = w1.alloc (.cells #[.string note', .slice D' deps'.length dc', .slice A' ops'.length ac'] 25) := ⟨_, rfl⟩
  have hs1 : w1.heap.size = w.heap.size + 1 := by rw [hw1]; simp
  have hb2 := Lib.hid (show Below w.heap.size w w2 by rw [hw2, hw1]; exact ((Below.refl _ _).alloc (Nat.le_refl _) _).alloc (by simp) _)
  have hP1 : PatAt w1 w.heap.size note D deps.length dc A ops.length ac := by unfold PatAt; rw [hw1]; exact heap_alloc_at _ _
  have hP2 : PatAt w2 w.heap.size note D deps.length dc A ops.length ac := by unfold PatAt; rw [hw2]; exact (heap_alloc_lt _ _ _ (heap_lt hP1)).trans hP1
  have hQ2 : PatAt w2 (w.heap.size + 1) note' D' deps'.length dc' A' ops'.length ac' := by unfold PatAt; rw [hw2, ← hs1]; exact heap_alloc_at _ _
  have C1 := fun W (h : Below w.heap.size w W) => rname5_c note D dc deps A ac ops W (hD.below h) (hO.below h)
  have C2 := fun W (h : Below w.heap.size w W) => rname5_c note' D' dc' deps' A' ac' ops' W (hD'.below h) (hO'.below h)
  have K1 := fun s W (h : Below w.heap.size w W) => place_c D dc deps s W (hD.below h)
  have K2 := fun s W (h : Below w.heap.size w W) => place_c D' dc' deps' s W (hD'.below h)
  obtain ⟨R, hR⟩ : ∃ R, R = com note deps ops note' deps' ops' := ⟨_, rfl⟩
  rw [← hR]
  unfold com at hR
  unfold rnmOf at C1 C2
  generalize pname note deps ops = na at *
  generalize pname note' deps' ops' = nb at *
  obtain ⟨x1, hx1⟩ : ∃ x, x = place deps nb := ⟨_, rfl⟩
  obtain ⟨x2, hx2⟩ : ∃ x, x = place deps' na := ⟨_, rfl⟩
  have K1' := fun W h => K1 nb W h
  have K2' := fun W h => K2 na W h
  rw [← hx1] at K1' hR
  rw [← hx2] at K2' hR
  generalize deps.length = nd at *
  generalize deps'.length = nd' at *
  generalize ops.length = no at *
  generalize ops'.length = no' at *
  generalize pright note deps ops = r1 at *
  generalize pright note' deps' ops' = r2 at *
  replace hP2 := Lib.hid hP2
  replace hQ2 := Lib.hid hQ2
  replace hR := Lib.hid hR
  replace hx1 := Lib.hid hx1
  replace hx2 := Lib.hid hx2
  replace K1' := Lib.hid K1'
  replace K2' := Lib.hid K2'
  clear hD hO hD' hO' hP1 K1 K2
  obtain ⟨p0, p1, p2, _, _⟩ := blk3' hP2.out
  obtain ⟨q0, q1, q2, _, _⟩ := blk3' hQ2.out
  cases r1 <;> cases r2
  · simp only [Bool.false_eq_true, if_false, if_true] at C1 C2
    replace C1 := Lib.hid C1
    replace C2 := Lib.hid C2
    go_enter Tryz.func14, Tryz.ntmps14
    go_upto_region 1 with fail
    rw [← hw1]
    try rw [hs1]
    rw [← hw2]
    replace hw1 := Lib.hid hw1
    replace hw2 := Lib.hid hw2
    replace hs1 := Lib.hid hs1
    go_wp2_with fail
    refine (C1.out w2 hb2.out).mono ?_
    rintro ev w3 ⟨rfl, hb⟩
    have hb3 := Lib.hid (hb2.out.trans (hb.mono hb2.out.size))
    have hP3 := Lib.hid (show PatAt w3 w.heap.size note D nd dc A no ac from (hb.block _ (heap_lt hP2.out)).trans hP2.out)
    have hQ3 := Lib.hid (show PatAt w3 (w.heap.size + 1) note' D' nd' dc' A' no' ac' from (hb.block _ (heap_lt hQ2.out)).trans hQ2.out)
    clear hb p0 p1 p2 q0 q1 q2
    obtain ⟨q0, q1, q2, _, _⟩ := blk3' hQ3.out
    go_wp2_with fail
    refine (C2.out w3 hb3.out).mono ?_
    rintro ev w4 ⟨rfl, hb⟩
    have hb4 := Lib.hid (hb3.out.trans (hb.mono hb3.out.size))
    have hP4 := Lib.hid (show PatAt w4 w.heap.size note D nd dc A no ac from (hb.block _ (heap_lt hP3.out)).trans hP3.out)
    have hQ4 := Lib.hid (show PatAt w4 (w.heap.size + 1) note' D' nd' dc' A' no' ac' from (hb.block _ (heap_lt hQ3.out)).trans hQ3.out)
    clear hb q0 q1 q2
    obtain ⟨p0, p1, p2, _, _⟩ := blk3' hP4.out
    obtain ⟨q0, q1, q2, _, _⟩ := blk3' hQ4.out
    go_wp2_with fail
    go_ret
    exact ⟨ret_b (by rw [hR.out]; simp), hb4.out⟩
  · simp only [Bool.false_eq_true, if_false, if_true] at C1 C2
    replace C1 := Lib.hid C1
    replace C2 := Lib.hid C2
    go_enter Tryz.func14, Tryz.ntmps14
    go_upto_region 1 with fail
    rw [← hw1]
    try rw [hs1]
    rw [← hw2]
    replace hw1 := Lib.hid hw1
    replace hw2 := Lib.hid hw2
    replace hs1 := Lib.hid hs1
    go_wp2_with fail
    refine (C1.out w2 hb2.out).mono ?_
    rintro ev w3 ⟨rfl, hb⟩
    have hb3 := Lib.hid (hb2.out.trans (hb.mono hb2.out.size))
    have hP3 := Lib.hid (show PatAt w3 w.heap.size note D nd dc A no ac from (hb.block _ (heap_lt hP2.out)).trans hP2.out)
    have hQ3 := Lib.hid (show PatAt w3 (w.heap.size + 1) note' D' nd' dc' A' no' ac' from (hb.block _ (heap_lt hQ2.out)).trans hQ2.out)
    clear hb p0 p1 p2 q0 q1 q2
    obtain ⟨q0, q1, q2, _, _⟩ := blk3' hQ3.out
    go_wp2_with fail
    refine (C2.out w3 hb3.out).mono ?_
    rintro ev w4 ⟨rfl, hb⟩
    have hb4 := Lib.hid (hb3.out.trans (hb.mono hb3.out.size))
    have hP4 := Lib.hid (show PatAt w4 w.heap.size note D nd dc A no ac from (hb.block _ (heap_lt hP3.out)).trans hP3.out)
    have hQ4 := Lib.hid (show PatAt w4 (w.heap.size + 1) note' D' nd' dc' A' no' ac' from (hb.block _ (heap_lt hQ3.out)).trans hQ3.out)
    clear hb q0 q1 q2
    obtain ⟨p0, p1, p2, _, _⟩ := blk3' hP4.out
    obtain ⟨q0, q1, q2, _, _⟩ := blk3' hQ4.out
    go_wp2_with fail
    go_ret
    exact ⟨ret_b (by rw [hR.out]; simp), hb4.out⟩
  · simp only [Bool.false_eq_true, if_false, if_true] at C1 C2
    replace C1 := Lib.hid C1
    replace C2 := Lib.hid C2
    go_enter Tryz.func14, Tryz.ntmps14
    go_upto_region 1 with fail
    rw [← hw1]
    try rw [hs1]
    rw [← hw2]
    replace hw1 := Lib.hid hw1
    replace hw2 := Lib.hid hw2
    replace hs1 := Lib.hid hs1
    go_wp2_with fail
    refine (C1.out w2 hb2.out).mono ?_
    rintro ev w3 ⟨rfl, hb⟩
    have hb3 := Lib.hid (hb2.out.trans (hb.mono hb2.out.size))
    have hP3 := Lib.hid (show PatAt w3 w.heap.size note D nd dc A no ac from (hb.block _ (heap_lt hP2.out)).trans hP2.out)
    have hQ3 := Lib.hid (show PatAt w3 (w.heap.size + 1) note' D' nd' dc' A' no' ac' from (hb.block _ (heap_lt hQ2.out)).trans hQ2.out)
    clear hb p0 p1 p2 q0 q1 q2
    obtain ⟨q0, q1, q2, _, _⟩ := blk3' hQ3.out
    go_wp2_with fail
    refine (C2.out w3 hb3.out).mono ?_
    rintro ev w4 ⟨rfl, hb⟩
    have hb4 := Lib.hid (hb3.out.trans (hb.mono hb3.out.size))
    have hP4 := Lib.hid (show PatAt w4 w.heap.size note D nd dc A no ac from (hb.block _ (heap_lt hP3.out)).trans hP3.out)
    have hQ4 := Lib.hid (show PatAt w4 (w.heap.size + 1) note' D' nd' dc' A' no' ac' from (hb.block _ (heap_lt hQ3.out)).trans hQ3.out)
    clear hb q0 q1 q2
    obtain ⟨p0, p1, p2, _, _⟩ := blk3' hP4.out
    obtain ⟨q0, q1, q2, _, _⟩ := blk3' hQ4.out
    go_wp2_with fail
    go_ret
    exact ⟨ret_b (by rw [hR.out]; simp), hb4.out⟩
  · simp only [Bool.false_eq_true, if_false, if_true] at C1 C2
    replace C1 := Lib.hid C1
    replace C2 := Lib.hid C2
    go_enter Tryz.func14, Tryz.ntmps14
    go_upto_region 1 with fail
    rw [← hw1]
    try rw [hs1]
    rw [← hw2]
    replace hw1 := Lib.hid hw1
    replace hw2 := Lib.hid hw2
    replace hs1 := Lib.hid hs1
    go_wp2_with fail
    refine (C1.out w2 hb2.out).mono ?_
    rintro ev w3 ⟨rfl, hb⟩
    have hb3 := Lib.hid (hb2.out.trans (hb.mono hb2.out.size))
    have hP3 := Lib.hid (show PatAt w3 w.heap.size note D nd dc A no ac from (hb.block _ (heap_lt hP2.out)).trans hP2.out)
    have hQ3 := Lib.hid (show PatAt w3 (w.heap.size + 1) note' D' nd' dc' A' no' ac' from (hb.block _ (heap_lt hQ2.out)).trans hQ2.out)
    clear hb p0 p1 p2 q0 q1 q2
    obtain ⟨q0, q1, q2, _, _⟩ := blk3' hQ3.out
    go_wp2_with fail
    refine (C2.out w3 hb3.out).mono ?_
    rintro ev w4 ⟨rfl, hb⟩
    have hb4 := Lib.hid (hb3.out.trans (hb.mono hb3.out.size))
    have hP4 := Lib.hid (show PatAt w4 w.heap.size note D nd dc A no ac from (hb.block _ (heap_lt hP3.out)).trans hP3.out)
    have hQ4 := Lib.hid (show PatAt w4 (w.heap.size + 1) note' D' nd' dc' A' no' ac' from (hb.block _ (heap_lt hQ3.out)).trans hQ3.out)
    clear hb q0 q1 q2
    obtain ⟨p0, p1, p2, _, _⟩ := blk3' hP4.out
    obtain ⟨q0, q1, q2, _, _⟩ := blk3' hQ4.out
    by_cases h1 : x1 < 0
    · have h1H := Lib.hid h1
      skip
      go_wp2_with fail
      refine (K1'.out w4 hb4.out).mono ?_
      rintro ev w5 ⟨rfl, hb⟩
      have hb5 := Lib.hid (hb4.out.trans (hb.mono hb4.out.size))
      have hQ5 := Lib.hid (show PatAt w5 (w.heap.size + 1) note' D' nd' dc' A' no' ac' from (hb.block _ (heap_lt hQ4.out)).trans hQ4.out)
      clear hb p0 p1 p2 q0 q1 q2
      obtain ⟨q0, q1, q2, _, _⟩ := blk3' hQ5.out
      go_wp2_with fail
      refine (K2'.out w5 hb5.out).mono ?_
      rintro ev w6 ⟨rfl, hb⟩
      have hb6 := Lib.hid (hb5.out.trans (hb.mono hb5.out.size))
      clear hb
      go_wp2_with fail
      go_ret
      exact ⟨ret_b (by rw [hR.out, decide_eq_true (show x1 < 0 by have := h1H.out; omega), Bool.eq_iff_iff]; simp), hb6.out⟩
    · have h1H := Lib.hid h1
      skip
      go_wp2_with fail
      refine (K1'.out w4 hb4.out).mono ?_
      rintro ev w5 ⟨rfl, hb⟩
      have hb5 := Lib.hid (hb4.out.trans (hb.mono hb4.out.size))
      clear hb
      go_wp2_with fail
      go_ret
      exact ⟨ret_b (by rw [hR.out, decide_eq_false (show ¬ x1 < 0 by have := h1H.out; omega), Bool.eq_iff_iff]; simp), hb5.out⟩
end Go.Proofs.YtbiioaggilaebaaGreatDoor.Pa
set_option linter.unusedVariables false
set_option linter.unusedSimpArgs false
namespace Go.Proofs.YtbiioaggilaebaaGreatDoor.Pa
open Go Go.RowKit Go.Proofs.YtbiioaggilaebaaGreatDoorW.PrintWords Go.Proofs.YtbiioaggilaebaaGreatDoor.B Go.Proofs.YtbiioaggilaebaaGreatDoor.Tm Go.Proofs.YtbiioaggilaebaaGreatDoor.Wi
theorem infoO : ∃ i, Tryz.prog.info? 38 = some i ∧ i.zero = some (.agg #[.int .i64 0, .int .i64 0, .int .i64 0, .int .i64 0, .int .i64 0, .slice none 0 0]) ∧ i.size = 6 ∧ i.bytes = 64 := by
  have h : (Tryz.prog.info? 38).map (fun i => (i.zero, i.size, i.bytes)) = some (some (.agg #[.int .i64 0, .int .i64 0, .int .i64 0, .int .i64 0, .int .i64 0, .slice none 0 0]), 6, 64) := by kernel_rfl
  match hi : Tryz.prog.info? 38, h with
  | some i, h =>
    simp only [Option.map_some, Option.some.injEq, Prod.mk.injEq] at h
    exact ⟨i, rfl, h.1, h.2.1, h.2.2⟩
theorem TxAt.move {w w' : World} {A : Option Addr} {c : Nat} {l : List ByteArray} (h : TxAt w A c l) (hm : 0 < l.length → ∀ a, A = some a → w'.heap[a.block]? = w.heap[a.block]?) : TxAt w' A c l := by
  obtain ⟨h1, h2⟩ := h
  refine ⟨?_, h2⟩
  by_cases h0 : 0 < l.length
  · exact strs_move h1 (hm h0)
  · obtain ⟨e1, e2, _⟩ := h1
    exact ⟨e1, e2, fun h => absurd h h0⟩
def OC (ok : Nat → Prop) (w : World) : List Op → List Value → Prop
  | [], cs => cs = []
  | o :: l, cs => ∃ L c r, cs = (opCells o L c).toList ++ r ∧ TxAt w L c o.ls ∧ (0 < o.ls.length → ∀ a, L = some a → ok a.block) ∧ OC ok w l r
theorem OC.move {ok ok' : Nat → Prop} {w w' : World} (hm : ∀ b, ok b → ok' b ∧ w'.heap[b]? = w.heap[b]?) : ∀ {l : List Op} {cs : List Value}, OC ok w l cs → OC ok' w' l cs
  | [], _, h => h
  | o :: l, cs, ⟨L, c, r, h1, h2, h3, h4⟩ => ⟨L, c, r, h1, h2.move (fun h0 a ha => (hm _ (h3 h0 a ha)).2), fun h0 a ha => (hm _ (h3 h0 a ha)).1, OC.move hm h4⟩
theorem OC.len {ok : Nat → Prop} {w : World} : ∀ {l : List Op} {cs : List Value}, OC ok w l cs → cs.length = l.length * 6
  | [], cs, h => by cases h; rfl
  | o :: l, cs, ⟨L, c, r, h1, h2, h3, h4⟩ => by
    rw [h1, List.length_append, OC.len h4, List.length_cons, show (opCells o L c).toList.length = 6 from rfl]
    omega
theorem OC.append {ok : Nat → Prop} {w : World} {l' : List Op} {cs' : List Value} (h' : OC ok w l' cs') : ∀ {l : List Op} {cs : List Value}, OC ok w l cs → OC ok w (l ++ l') (cs ++ cs')
  | [], cs, h => by cases h; exact h'
  | o :: l, cs, ⟨L, c, r, h1, h2, h3, h4⟩ => ⟨L, c, r ++ cs', by rw [h1, List.append_assoc], h2, h3, OC.append h' h4⟩
theorem OC.get {ok : Nat → Prop} {w : World} : ∀ {l : List Op} {cs : List Value}, OC ok w l cs → ∀ j (h : j < l.length), ∃ L c, (∀ i, i < 6 → cs[j * 6 + i]? = (opCells l[j] L c)[i]?) ∧ TxAt w L c l[j].ls
  | o :: l, cs, ⟨L, c, r, h1, h2, h3, h4⟩, 0, _ => ⟨L, c, fun i hi => by
      rw [h1, Nat.zero_mul, Nat.zero_add, List.getElem?_append_left (by show i < 6; exact hi), Array.getElem?_toList]
      rfl, h2⟩
  | o :: l, cs, ⟨L, c, r, h1, h2, h3, h4⟩, j + 1, h => by
    obtain ⟨L', c', e1, e2⟩ := OC.get h4 j (by simpa using h)
    refine ⟨L', c', fun i hi => ?_, e2⟩
    rw [h1, List.getElem?_append_right (by show 6 ≤ _; omega), show (j + 1) * 6 + i - (opCells o L c).toList.length = j * 6 + i from by rw [show (opCells o L c).toList.length = 6 from rfl]; omega, e1 i hi]
    rfl
theorem OC.one {ok : Nat → Prop} {w : World} : ∀ {l : List Op} {cs : List Value}, OC ok w l cs → ∀ u ∈ cs, u.oneCell' = true
  | [], cs, h, u, hu => by cases h; cases hu
  | o :: l, cs, ⟨L, c, r, h1, h2, h3, h4⟩, u, hu => by
    rw [h1, List.mem_append] at hu
    rcases hu with hu | hu
    · unfold opCells at hu
      simp only [List.mem_cons, List.not_mem_nil, or_false] at hu
      rcases hu with rfl | rfl | rfl | rfl | rfl | rfl <;> rfl
    · exact OC.one h4 u hu
def OBag (base : Nat) (w : World) (v : Value) (L : List Op) : Prop :=
  ∃ cs, w.ownsRow base 38 6 v L.length cs ∧ OC (fun b => base ≤ b ∧ b < w.heap.size ∧ some b ≠ v.ownBlock) w L cs
theorem OBag.nil (base : Nat) (w : World) : OBag base w (.slice none 0 0) [] := ⟨[], ⟨rfl, .inl ⟨rfl, rfl⟩⟩, rfl⟩
theorem OBag.lt {base : Nat} {w : World} {v : Value} {L : List Op} (h : OBag base w v L) (k : Nat) (hk : v.ownBlock = some k) : base ≤ k ∧ k < w.heap.size := by
  obtain ⟨cs, h1, _⟩ := h
  have := h1.lt k hk
  exact ⟨this.1, this.2⟩
theorem OBag.keep {base : Nat} {w w' : World} {v : Value} {L : List Op} (h : OBag base w v L) (hk : ∀ b, base ≤ b → b < w.heap.size → w'.heap[b]? = w.heap[b]?) (hs : w.heap.size ≤ w'.heap.size) : OBag base w' v L := by
  have hlt := h.lt
  obtain ⟨cs, h1, h2⟩ := h
  refine ⟨cs, ?_, OC.move (fun b hb => ⟨⟨hb.1, Nat.lt_of_lt_of_le hb.2.1 hs, hb.2.2⟩, hk b hb.1 hb.2.1⟩) h2⟩
  obtain ⟨k1, k2⟩ := h1
  refine ⟨k1, ?_⟩
  rcases k2 with k2 | ⟨g, cap, cur, e1, e2, e3, e4⟩
  · exact .inl k2
  · have := hlt g (by rw [e1]; rfl)
    exact .inr ⟨g, cap, cur, e1, e2, (hk g this.1 this.2).trans e3, e4⟩
theorem OBag.below {base : Nat} {w w' : World} {v : Value} {L : List Op} (h : OBag base w v L) (hb : Below w.heap.size w w') : OBag base w' v L := h.keep (fun b _ hb' => hb.block b hb') hb.size
theorem OBag.ops {base : Nat} {w : World} {v : Value} {L : List Op} (h : OBag base w v L) (hl : L.length ≤ 140737488351232) : ∃ A c, v = .slice A L.length c ∧ OpsAt w A c L ∧ (∀ a, A = some a → base ≤ a.block) := by
  obtain ⟨cs, ⟨k1, k2⟩, h2⟩ := h
  rcases k2 with ⟨rfl, h0⟩ | ⟨g, cap, cur, rfl, e2, e3, e4, e5, e6, e7⟩
  · obtain rfl : L = [] := List.eq_nil_of_length_eq_zero h0
    exact ⟨none, 0, rfl, ⟨Nat.le_refl _, by simp, fun h => absurd h (by simp)⟩, fun a ha => (by cases ha)⟩
  · refine ⟨some ⟨g, 0, none⟩, cap, rfl, ⟨e4, hl, fun _ => ⟨g, 0, rfl, fun j hj => ?_⟩⟩, fun a ha => by cases ha; exact e2⟩
    obtain ⟨L', c', f1, f2⟩ := OC.get h2 j hj
    refine ⟨L', c', fun i hi => ?_, f2⟩
    rw [Nat.zero_add, cell_of e3, ← f1 i hi, ← e7, List.getElem?_take, if_pos (by omega), Array.getElem?_toList]
theorem ops_app {ops : Array Oper} {rest : List Oper} {o : Oper} {a : Act} {Q : Exit → Act → World → Prop} {base : Nat} {w : World} {v : Value} {L : List Op} {x : Op} {A : Option Addr} {ca : Nat} (hgd : o.guard = none) (s y : Operand) (t : TypeId)
    (ho : o.op = .call { callee := .builtin .append, args := #[s, y], argTypes := #[t, t] }) (ht : Tryz.prog.underlying t = some (.slice 38))
    (hs : a.eval s = v) (n c : Nat) (hx : a.eval y = .slice (some ⟨w.heap.size, 0, none⟩) 1 c) (hbag : OBag base w v L)
    (hT : TxAt w A ca x.ls) (hA : 0 < x.ls.length → ∀ ad, A = some ad → base ≤ ad.block ∧ ad.block < w.heap.size ∧ some ad.block ≠ v.ownBlock) (hn : L.length = n) (hb : n ≤ 1000000) (hbase : base ≤ w.heap.size)
    (h : ∀ g cap w', OBag base w' (.slice (some ⟨g, 0, none⟩) (n + 1) cap) (L ++ [x]) → Grew v w w' → wpList Tryz.prog ops Q rest (a.put o.dst (.slice (some ⟨g, 0, none⟩) (n + 1) cap)) w') :
    wpList Tryz.prog ops Q (o :: rest) a (w.alloc (.cells (opCells x A ca) 38)) := by
  subst hn
  obtain ⟨iF, hiF, hzF, hsF, hbF⟩ := infoO
  have hbag' := hbag
  obtain ⟨cs, hown, hFC⟩ := hbag
  have hOx : OC (fun b => base ≤ b ∧ b < w.heap.size ∧ some b ≠ v.ownBlock) w [x] (opCells x A ca).toList := ⟨A, ca, [], by rw [List.append_nil], hT, hA, rfl⟩
  refine wpList_append_lies _ hgd s y t ho base 38 iF _ 6 64 ht hiF hzF hsF hbF rfl (by omega) v L.length cs hs (hown.alloc _) ⟨w.heap.size, 0, none⟩ 1 c (opCells x A ca).toList hx rfl (World.news_of_block (heap_alloc_at w _)) (OC.one hOx) (by omega) (by unfold maxLen; omega) (by omega) (by simp; omega) (w.heap.size + 1) (by simp) ?_
  intro g cap w' hown' hgrow hat hlt
  have hsz := hgrow.size
  rw [size_alloc] at hsz
  have hgr : w.grownBy w' v.ownBlock := ⟨hgrow.os, hgrow.tape, hgrow.output, by omega, fun k h1 h2 => (hgrow.block k (by rw [size_alloc]; omega) h2).trans (heap_alloc_lt w _ _ h1)⟩
  refine h g cap w' ⟨cs ++ (opCells x A ca).toList, by rw [List.length_append]; exact hown', ?_⟩ ⟨hgr.size, hgr.os, hgr.tape, hgr.output, hgr.block⟩
  refine OC.move (fun b hb => ⟨⟨hb.1, Nat.lt_of_lt_of_le hb.2.1 hgr.size, ?_⟩, hgr.block b hb.2.1 hb.2.2⟩) (OC.append hOx hFC)
  show some b ≠ some g
  intro e
  injection e with e
  subst e
  rcases hat with hv | hv
  · exact hb.2.2 hv.symm
  · have := hb.2.1; omega
end Go.Proofs.YtbiioaggilaebaaGreatDoor.Pa
