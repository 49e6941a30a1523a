/- The document's Past of layer 6: its walk. -/
import Derived.Test.YtalkhiggapbfjaaDoorOpA
import Derived.Deep.RegionHeldLaw
set_option linter.unusedVariables false
set_option linter.unusedSimpArgs false
namespace Go.Proofs.YtalkhiggapbfjaaDoor.Orp
open Go Go.RowKit Go.Proofs.YtalkhiggapbfjaaDoor.B Go.Proofs.YtalkhiggapbfjaaDoor.St Go.Proofs.YtalkhiggapbfjaaDoor.Mp
open Go.Proofs.YtalkhiggapbfjaaDoor.Hp (ltB le tob ltB_iff)
def PastP2 (zs : List Nx) (nm : ByteArray) (w : World) (e : Ending) (w' : World) : Prop := ∃ v, e = .returned v ∧ Rising w.heap.size w' v (Reach (nds zs) nm) ∧ Below w.heap.size w w'
set_option maxRecDepth 100000 in
set_option maxHeartbeats 1000000 in
theorem pastr_c (A : Option Addr) (c : Nat) (zs : List Nx) (nm : ByteArray) (w : World) (hS : SetAt w A c zs) (n : Nat) (hn : zs.length = n) (hn1 : n ≤ 1000) (hd : ∀ z ∈ zs, z.deps.length ≤ 1000) : Calls Tryd.prog 16 #[.slice A n c, .string nm] w (PastP2 zs nm w) := by
  have hSH := Lib.hid hS
  have hnH := Lib.hid hn
  have hdH := Lib.hid hd
  clear hS hn hd
  go_enter Tryd.func16, Tryd.ntmps16
  go_wp2_with fail
  go_loopw [5] (fun lv wr => ∃ l : List ByteArray, SRow w.heap.size wr lv l ∧ SS (toL l) ∧ (∀ y ∈ l, Reach (nds zs) nm y) ∧ Below w.heap.size w wr) (fun lv _ => n + 1 - lenV lv)
  case atStart => exact ⟨[], SRow.nil _ _, .nil, fun y hy => (by cases hy), Below.refl _ _⟩
  case round =>
    obtain ⟨l, hr, hss, hre, hB⟩ := hrel
    obtain ⟨Al, cl, hvl⟩ := hr.shape
    obtain ⟨p, hp⟩ : ∃ p, l.length = p := ⟨_, rfl⟩
    have hpn : p ≤ n := by
      have := subset_len (l := l) (m := names zs) (ss_nodup hss) (fun y hy => there_names.1 (hre y hy).there)
      unfold names at this
      rw [List.length_map, hnH.out] at this
      omega
    rw [hp] at hvl
    subst hvl
    obtain ⟨wo, hwo⟩ : ∃ wo, wo = wr := ⟨_, rfl⟩
    subst hwo
    replace hr := Lib.hid hr
    replace hss := Lib.hid hss
    replace hre := Lib.hid hre
    replace hB := Lib.hid hB
    replace hp := Lib.hid hp
    go_wp2_with fail
    go_loopw [6, 7] (fun mv iv wr => ∃ (i : Nat) (mo : List ByteArray), i ≤ n ∧ iv = .int .i64 i ∧ SRow wo.heap.size wr mv mo ∧ PaI zs nm l i mo ∧ Below wo.heap.size wo wr) (fun _ iv _ => n - (intOf iv).toNat)
    case atStart => exact ⟨0, [], Nat.zero_le _, rfl, SRow.nil _ _, ⟨.nil, fun y hy => (by cases hy), fun z hz => absurd hz (by simp)⟩, Below.refl _ _⟩
    case round =>
      obtain ⟨i, mo, hi, rfl, hrm, hP, hBm⟩ := hrel
      obtain ⟨wi, hwi⟩ : ∃ wi, wi = wr := ⟨_, rfl⟩
      subst hwi
      obtain ⟨Am, cm, hvm⟩ := hrm.shape
      obtain ⟨m, hm⟩ : ∃ m, mo.length = m := ⟨_, rfl⟩
      rw [hm] at hvm
      subst hvm
      by_cases hlt : i < n
      · have hiz : i < zs.length := by rw [hnH.out]; exact hlt
        have hBi : Below w.heap.size w wi := hB.out.trans (hBm.mono hB.out.size)
        obtain ⟨b, o, hA, c0, c1, c2, c3⟩ := (hSH.out.below hBi).get i hiz
        obtain ⟨x, hx⟩ : ∃ x, x = zs[i] := ⟨_, rfl⟩
        rw [← hx] at c0 c1 c2 c3
        subst hA
        have hxm : x ∈ zs := by rw [hx]; exact List.getElem_mem _
        have hxd := hdH.out x hxm
        have htk : zs.take (i + 1) = zs.take i ++ [x] := by rw [List.take_succ_eq_append_getElem hiz, hx]
        obtain ⟨W, hW⟩ : ∃ W, wi.alloc (.cells #[.string x.nm, .string x.note, .slice x.D x.deps.length x.dc, .slice x.O x.on x.oc] 30) = W := ⟨_, rfl⟩
        have hiW : Below wi.heap.size wi W := by rw [← hW]; exact (Below.refl _ _).alloc (Nat.le_refl _) _
        have hbox : W.heap[wi.heap.size]? = some (.cells #[.string x.nm, .string x.note, .slice x.D x.deps.length x.dc, .slice x.O x.on x.oc] 30 (0, 0)) := by rw [← hW]; exact heap_alloc_at _ _
        have hd0 := cell_of hbox 0
        have hd2 := cell_of hbox 2
        have hBW := Lib.hid (hBi.trans (hiW.mono hBi.size))
        have hBoW : Below wo.heap.size wo W := hBm.trans (hiW.mono hBm.size)
        have hrlW := Lib.hid (srow_below hr.out hBoW)
        have hrW := Lib.hid (srow_below hrm hiW)
        have hinl := Lib.hid (in_c Al cl l x.nm W (SRow.rat hrlW.out).1 p hp.out (by omega))
        replace hBoW := Lib.hid hBoW
        replace hbox := Lib.hid hbox
        replace hx := Lib.hid hx
        replace hxm := Lib.hid hxm
        replace htk := Lib.hid htk
        replace hP := Lib.hid hP
        have hWH := Lib.hid hW
        clear hrm hBm hm hiW hW hBi hd0 hd2
        by_cases hc1 : x.nm = nm
        · have hq := tl_true hc1
          have hcond : Hid (x.nm = nm ∨ x.nm ∈ l) := Lib.hid (.inl hc1)
          replace hc1 := Lib.hid hc1
          go_wp2_with fail
          rw [hWH.out]
          go_loopw [6, 9] (fun mv kv wr => ∃ (k : Nat) (mo' : List ByteArray), k ≤ x.deps.length ∧ kv = .int .i64 k ∧ SRow wo.heap.size wr mv mo' ∧ PaJ zs nm l i x k mo' ∧ Below W.heap.size W wr) (fun _ kv _ => x.deps.length - (intOf kv).toNat)
          case atStart => exact ⟨0, mo, Nat.zero_le _, rfl, hrW.out, ⟨hP.out, fun d hd => absurd hd (by simp)⟩, Below.refl _ _⟩
          case round =>
            obtain ⟨k, mo', hk, rfl, hr', hJ, hBk⟩ := hrel
            obtain ⟨A', c', hv'⟩ := hr'.shape
            obtain ⟨p', hp'⟩ : ∃ p', mo'.length = p' := ⟨_, rfl⟩
            have hpn' : p' ≤ n := by have := hJ.pi.len; rw [hp', hnH.out] at this; exact this
            rw [hp'] at hv'
            subst hv'
            have hb1 : wr.cell? ⟨wi.heap.size, 2, none⟩ = some (.slice x.D x.deps.length x.dc) := cell_of ((hBk.block _ (heap_lt hbox.out)).trans hbox.out) 2
            have hWr : Below w.heap.size w wr := hBW.out.trans (hBk.mono hBW.out.size)
            have hWo : Below wo.heap.size wo wr := hBoW.out.trans (hBk.mono hBoW.out.size)
            by_cases hkl : k < x.deps.length
            · obtain ⟨b2, o2, hD, hcd⟩ := ((hSH.out.2.2.2 x hxm.out).2.below hWr).2.2.2 (by omega)
              have cd := hcd k hkl
              obtain ⟨d, hde⟩ : ∃ d, d = x.deps.getD k ByteArray.empty := ⟨_, rfl⟩
              rw [← hde] at cd
              have hdk : x.deps[k] = d := by rw [hde, List.getD_eq_getElem?_getD, List.getElem?_eq_getElem hkl]; rfl
              have htd : x.deps.take (k + 1) = x.deps.take k ++ [d] := by rw [List.take_succ_eq_append_getElem hkl, hdk]
              have hdm : d ∈ x.deps := by rw [← hdk]; exact List.getElem_mem _
              rw [hD] at hb1
              replace hD := Lib.hid hD
              have hnm := Lib.hid (names_c _ c zs wr (hSH.out.below hWr) n hnH.out hn1)
              replace hde := Lib.hid hde
              replace htd := Lib.hid htd
              replace hdm := Lib.hid hdm
              replace hr' := Lib.hid hr'
              replace hJ := Lib.hid hJ
              replace hBk := Lib.hid hBk
              replace hWr := Lib.hid hWr
              replace hWo := Lib.hid hWo
              replace hp' := Lib.hid hp'
              clear hcd hdk
              go_wp2_with fail
              refine hnm.out.mono ?_
              rintro e w2 ⟨v2, rfl, hr2, hb2⟩
              obtain ⟨A2, c2, hv2⟩ := hr2.shape
              have hnl : (names zs).length = n := by unfold names; rw [List.length_map, hnH.out]
              rw [hnl] at hv2
              subst hv2
              have hB2 : Below W.heap.size W w2 := hBk.out.trans (hb2.mono hBk.out.size)
              have hlw := srow_below hrlW.out hB2
              have hr3 := srow_below hr'.out hb2
              have hin1 := Lib.hid (in_c A2 c2 (names zs) d w2 (SRow.rat hr2).1 n hnl (by omega))
              have hin2 := Lib.hid (in_c Al cl l d w2 (SRow.rat hlw).1 p hp.out (by omega))
              have hws : wo.heap.size ≤ w2.heap.size := Nat.le_trans hWo.out.size hb2.size
              have hadd := Lib.hid (add_c (.slice A' p' c') mo' d w2 hr3 hJ.out.pi.ss (by rw [hp'.out]; omega) hws)
              replace hB2 := Lib.hid hB2
              replace hr3 := Lib.hid hr3
              clear hr2 hb2 hlw hnm hnl
              by_cases hd1 : d ∈ names zs
              · have hq1 := Lib.hid (inB_iff.2 hd1)
                replace hd1 := Lib.hid hd1
                by_cases hd2 : d ∈ l
                · have hq2 := Lib.hid (inB_iff.2 hd2)
                  replace hd2 := Lib.hid hd2
                  go_wp2_with fail
                  refine hin1.out.mono ?_
                  rintro e w3 ⟨he, rfl⟩
                  rw [hq1.out] at he
                  subst he
                  go_wp2_with fail
                  refine hin2.out.mono ?_
                  rintro e w3 ⟨he, rfl⟩
                  rw [hq2.out] at he
                  subst he
                  go_wp2_with fail
                  go_roundw
                  case rel => exact ⟨k + 1, mo', by omega, by go_num, hr3.out, hJ.out.skip htd.out fun _ => hd2.out, hB2.out⟩
                  case measure => simp [intOf]; omega
                · have hq2 : Hid (inB l d = false) := Lib.hid (by rw [Bool.eq_false_iff]; exact fun h => hd2 (inB_iff.1 h))
                  replace hd2 := Lib.hid hd2
                  go_wp2_with fail
                  refine hin1.out.mono ?_
                  rintro e w3 ⟨he, rfl⟩
                  rw [hq1.out] at he
                  subst he
                  go_wp2_with fail
                  refine hin2.out.mono ?_
                  rintro e w3 ⟨he, rfl⟩
                  rw [hq2.out] at he
                  subst he
                  go_wp2_with fail
                  refine hadd.out.mono ?_
                  rintro e w4 ⟨v4, l4, rfl, h4, hs4, hm4, hb4⟩
                  have hB4 := Lib.hid (hB2.out.trans (hb4.mono hB2.out.size))
                  have hJ4 := Lib.hid (hJ.out.add htd.out hs4 hm4 (reach_step hre.out hxm.out hcond.out hdm.out hd1.out) hd2.out)
                  replace h4 := Lib.hid h4
                  clear hs4 hm4 hb4
                  go_wp2_with fail
                  go_roundw
                  case rel => exact ⟨k + 1, l4, by omega, by go_num, h4.out, hJ4.out, hB4.out⟩
                  case measure => simp [intOf]; omega
              · have hq1 : Hid (inB (names zs) d = false) := Lib.hid (by rw [Bool.eq_false_iff]; exact fun h => hd1 (inB_iff.1 h))
                replace hd1 := Lib.hid hd1
                go_wp2_with fail
                refine hin1.out.mono ?_
                rintro e w3 ⟨he, rfl⟩
                rw [hq1.out] at he
                subst he
                go_wp2_with fail
                go_roundw
                case rel => exact ⟨k + 1, mo', by omega, by go_num, hr3.out, hJ.out.skip htd.out fun h => absurd h hd1.out, hB2.out⟩
                case measure => simp [intOf]; omega
            · obtain rfl : k = x.deps.length := by omega
              have hPn := Lib.hid (hJ.done htk.out)
              replace hr' := Lib.hid hr'
              replace hWo := Lib.hid hWo
              clear hJ hBk hWr
              go_wp2_with fail
              go_roundw
              case rel => exact ⟨i + 1, mo', by omega, by go_num, hr'.out, hPn.out, hWo.out⟩
              case measure => simp [intOf]; omega
        · have hq := tl_false hc1
          by_cases hc2 : x.nm ∈ l
          · have hq2 := Lib.hid (inB_iff.2 hc2)
            have hcond : Hid (x.nm = nm ∨ x.nm ∈ l) := Lib.hid (.inr hc2)
            replace hc1 := Lib.hid hc1
            replace hc2 := Lib.hid hc2
            go_wp2_with fail
            rw [hWH.out]
            refine hinl.out.mono ?_
            rintro e w3 ⟨he, hw3⟩
            rw [hq2.out] at he
            subst he
            rw [hw3]
            go_wp2_with fail
            go_loopw [6, 9] (fun mv kv wr => ∃ (k : Nat) (mo' : List ByteArray), k ≤ x.deps.length ∧ kv = .int .i64 k ∧ SRow wo.heap.size wr mv mo' ∧ PaJ zs nm l i x k mo' ∧ Below W.heap.size W wr) (fun _ kv _ => x.deps.length - (intOf kv).toNat)
            case atStart => exact ⟨0, mo, Nat.zero_le _, rfl, hrW.out, ⟨hP.out, fun d hd => absurd hd (by simp)⟩, Below.refl _ _⟩
            case round =>
              obtain ⟨k, mo', hk, rfl, hr', hJ, hBk⟩ := hrel
              obtain ⟨A', c', hv'⟩ := hr'.shape
              obtain ⟨p', hp'⟩ : ∃ p', mo'.length = p' := ⟨_, rfl⟩
              have hpn' : p' ≤ n := by have := hJ.pi.len; rw [hp', hnH.out] at this; exact this
              rw [hp'] at hv'
              subst hv'
              have hb1 : wr.cell? ⟨wi.heap.size, 2, none⟩ = some (.slice x.D x.deps.length x.dc) := cell_of ((hBk.block _ (heap_lt hbox.out)).trans hbox.out) 2
              have hWr : Below w.heap.size w wr := hBW.out.trans (hBk.mono hBW.out.size)
              have hWo : Below wo.heap.size wo wr := hBoW.out.trans (hBk.mono hBoW.out.size)
              by_cases hkl : k < x.deps.length
              · obtain ⟨b2, o2, hD, hcd⟩ := ((hSH.out.2.2.2 x hxm.out).2.below hWr).2.2.2 (by omega)
                have cd := hcd k hkl
                obtain ⟨d, hde⟩ : ∃ d, d = x.deps.getD k ByteArray.empty := ⟨_, rfl⟩
                rw [← hde] at cd
                have hdk : x.deps[k] = d := by rw [hde, List.getD_eq_getElem?_getD, List.getElem?_eq_getElem hkl]; rfl
                have htd : x.deps.take (k + 1) = x.deps.take k ++ [d] := by rw [List.take_succ_eq_append_getElem hkl, hdk]
                have hdm : d ∈ x.deps := by rw [← hdk]; exact List.getElem_mem _
                rw [hD] at hb1
                replace hD := Lib.hid hD
                have hnm := Lib.hid (names_c _ c zs wr (hSH.out.below hWr) n hnH.out hn1)
                replace hde := Lib.hid hde
                replace htd := Lib.hid htd
                replace hdm := Lib.hid hdm
                replace hr' := Lib.hid hr'
                replace hJ := Lib.hid hJ
                replace hBk := Lib.hid hBk
                replace hWr := Lib.hid hWr
                replace hWo := Lib.hid hWo
                replace hp' := Lib.hid hp'
                clear hcd hdk
                go_wp2_with fail
                refine hnm.out.mono ?_
                rintro e w2 ⟨v2, rfl, hr2, hb2⟩
                obtain ⟨A2, c2, hv2⟩ := hr2.shape
                have hnl : (names zs).length = n := by unfold names; rw [List.length_map, hnH.out]
                rw [hnl] at hv2
                subst hv2
                have hB2 : Below W.heap.size W w2 := hBk.out.trans (hb2.mono hBk.out.size)
                have hlw := srow_below hrlW.out hB2
                have hr3 := srow_below hr'.out hb2
                have hin1 := Lib.hid (in_c A2 c2 (names zs) d w2 (SRow.rat hr2).1 n hnl (by omega))
                have hin2 := Lib.hid (in_c Al cl l d w2 (SRow.rat hlw).1 p hp.out (by omega))
                have hws : wo.heap.size ≤ w2.heap.size := Nat.le_trans hWo.out.size hb2.size
                have hadd := Lib.hid (add_c (.slice A' p' c') mo' d w2 hr3 hJ.out.pi.ss (by rw [hp'.out]; omega) hws)
                replace hB2 := Lib.hid hB2
                replace hr3 := Lib.hid hr3
                clear hr2 hb2 hlw hnm hnl
                by_cases hd1 : d ∈ names zs
                · have hq1 := Lib.hid (inB_iff.2 hd1)
                  replace hd1 := Lib.hid hd1
                  by_cases hd2 : d ∈ l
                  · have hq2 := Lib.hid (inB_iff.2 hd2)
                    replace hd2 := Lib.hid hd2
                    go_wp2_with fail
                    refine hin1.out.mono ?_
                    rintro e w3 ⟨he, rfl⟩
                    rw [hq1.out] at he
                    subst he
                    go_wp2_with fail
                    refine hin2.out.mono ?_
                    rintro e w3 ⟨he, rfl⟩
                    rw [hq2.out] at he
                    subst he
                    go_wp2_with fail
                    go_roundw
                    case rel => exact ⟨k + 1, mo', by omega, by go_num, hr3.out, hJ.out.skip htd.out fun _ => hd2.out, hB2.out⟩
                    case measure => simp [intOf]; omega
                  · have hq2 : Hid (inB l d = false) := Lib.hid (by rw [Bool.eq_false_iff]; exact fun h => hd2 (inB_iff.1 h))
                    replace hd2 := Lib.hid hd2
                    go_wp2_with fail
                    refine hin1.out.mono ?_
                    rintro e w3 ⟨he, rfl⟩
                    rw [hq1.out] at he
                    subst he
                    go_wp2_with fail
                    refine hin2.out.mono ?_
                    rintro e w3 ⟨he, rfl⟩
                    rw [hq2.out] at he
                    subst he
                    go_wp2_with fail
                    refine hadd.out.mono ?_
                    rintro e w4 ⟨v4, l4, rfl, h4, hs4, hm4, hb4⟩
                    have hB4 := Lib.hid (hB2.out.trans (hb4.mono hB2.out.size))
                    have hJ4 := Lib.hid (hJ.out.add htd.out hs4 hm4 (reach_step hre.out hxm.out hcond.out hdm.out hd1.out) hd2.out)
                    replace h4 := Lib.hid h4
                    clear hs4 hm4 hb4
                    go_wp2_with fail
                    go_roundw
                    case rel => exact ⟨k + 1, l4, by omega, by go_num, h4.out, hJ4.out, hB4.out⟩
                    case measure => simp [intOf]; omega
                · have hq1 : Hid (inB (names zs) d = false) := Lib.hid (by rw [Bool.eq_false_iff]; exact fun h => hd1 (inB_iff.1 h))
                  replace hd1 := Lib.hid hd1
                  go_wp2_with fail
                  refine hin1.out.mono ?_
                  rintro e w3 ⟨he, rfl⟩
                  rw [hq1.out] at he
                  subst he
                  go_wp2_with fail
                  go_roundw
                  case rel => exact ⟨k + 1, mo', by omega, by go_num, hr3.out, hJ.out.skip htd.out fun h => absurd h hd1.out, hB2.out⟩
                  case measure => simp [intOf]; omega
              · obtain rfl : k = x.deps.length := by omega
                have hPn := Lib.hid (hJ.done htk.out)
                replace hr' := Lib.hid hr'
                replace hWo := Lib.hid hWo
                clear hJ hBk hWr
                go_wp2_with fail
                go_roundw
                case rel => exact ⟨i + 1, mo', by omega, by go_num, hr'.out, hPn.out, hWo.out⟩
                case measure => simp [intOf]; omega
          · have hq2 : Hid (inB l x.nm = false) := Lib.hid (by rw [Bool.eq_false_iff]; exact fun h => hc2 (inB_iff.1 h))
            have hPn := Lib.hid (hP.out.skip htk.out (fun h => h.elim hc1 hc2))
            replace hc1 := Lib.hid hc1
            replace hc2 := Lib.hid hc2
            go_wp2_with fail
            rw [hWH.out]
            refine hinl.out.mono ?_
            rintro e w3 ⟨he, rfl⟩
            rw [hq2.out] at he
            subst he
            go_wp2_with fail
            go_roundw
            case rel => exact ⟨i + 1, mo, by omega, by go_num, hrW.out, hPn.out, hBoW.out⟩
            case measure => simp [intOf]; omega
      · obtain rfl : n = i := by omega
        have hBi : Below w.heap.size w wi := hB.out.trans (hBm.mono hB.out.size)
        have hri := srow_below hr.out hBm
        have hal := hP.al
        rw [List.take_of_length_le (by rw [hnH.out]; exact Nat.le_refl _)] at hal
        by_cases hm0 : m = 0
        · subst hm0
          obtain rfl : mo = [] := List.eq_nil_of_length_eq_zero hm
          have hris : Rising w.heap.size wi (.slice Al p cl) (Reach (nds zs) nm) := ⟨l, hri, hss.out, fun y => ⟨hre.out y, past_done (fun z hz hc d hd ht => (hal z hz hc d hd ht).elim id (fun h => by cases h)) y⟩⟩
          replace hris := Lib.hid hris
          replace hBi := Lib.hid hBi
          clear hrm hP hBm hm hri hal
          go_wp2_with fail
          go_ret
          exact ⟨_, rfl, hris.out, hBi.out⟩
        · have h0b : ((m : Int) == 0) = false := by simpa using (show ¬ (m : Int) = 0 by omega)
          have hmn : m ≤ n := by have := hP.len; rw [hm, hnH.out] at this; exact this
          have hrmw := hrm.base (b1 := w.heap.size) (fun j hj => Nat.le_trans hB.out.size (hrm.lt j hj).1)
          replace hrm := Lib.hid hrm
          replace hP := Lib.hid hP
          replace hBm := Lib.hid hBm
          replace hm := Lib.hid hm
          replace hBi := Lib.hid hBi
          replace hri := Lib.hid hri
          clear hal hrmw
          go_wp2_with fail
          go_loopw [5, 11] (fun lv jv wr => ∃ (j : Nat) (l' : List ByteArray), j ≤ m ∧ jv = .int .i64 j ∧ SRow w.heap.size wr lv l' ∧ SS (toL l') ∧ (∀ y, y ∈ l' ↔ y ∈ l ∨ y ∈ mo.take j) ∧ Below wi.heap.size wi wr) (fun _ jv _ => m - (intOf jv).toNat)
          case atStart => exact ⟨0, l, Nat.zero_le _, rfl, hri.out, hss.out, fun y => by simp, Below.refl _ _⟩
          case round =>
            obtain ⟨j, l', hj, rfl, hr', hs', hm', hB'⟩ := hrel
            obtain ⟨A', c', hv'⟩ := hr'.shape
            obtain ⟨p', hp'⟩ : ∃ p', l'.length = p' := ⟨_, rfl⟩
            have hre' : ∀ y ∈ l', Reach (nds zs) nm y := fun y hy => ((hm' y).1 hy).elim (hre.out y) fun h => (hP.out.re y (List.mem_of_mem_take h)).1
            have hpn' : p' ≤ n := by
              have := subset_len (l := l') (m := names zs) (ss_nodup hs') (fun y hy => there_names.1 (hre' y hy).there)
              unfold names at this
              rw [List.length_map, hnH.out] at this
              omega
            rw [hp'] at hv'
            subst hv'
            have hBw : Below w.heap.size w wr := hBi.out.trans (hB'.mono hBi.out.size)
            by_cases hjl : j < m
            · have hjm : j < mo.length := by rw [hm.out]; exact hjl
              have hrr := srow_below hrm.out hB'
              obtain ⟨g, hg, -⟩ := hrr.addr (by omega)
              subst hg
              have cx := hrr.at j hjm
              obtain ⟨x, hx⟩ : ∃ x, x = mo.getD j ByteArray.empty := ⟨_, rfl⟩
              rw [← hx] at cx
              have hxl : mo[j] = x := by rw [hx, List.getD_eq_getElem?_getD, List.getElem?_eq_getElem hjm]; rfl
              have htk : mo.take (j + 1) = mo.take j ++ [x] := by rw [List.take_succ_eq_append_getElem hjm, hxl]
              have hadd := Lib.hid (add_c (.slice A' p' c') l' x wr hr' hs' (by omega) hBw.size)
              replace hx := Lib.hid hx
              replace htk := Lib.hid htk
              replace hB' := Lib.hid hB'
              replace hm' := Lib.hid hm'
              clear hxl hrr hr' hs' hre'
              go_wp2_with fail
              refine hadd.out.mono ?_
              rintro e w2 ⟨v2, l2, rfl, h2, hs2, hm2, hb2⟩
              have hB2 := Lib.hid (hB'.out.trans (hb2.mono hB'.out.size))
              replace h2 := Lib.hid h2
              replace hs2 := Lib.hid hs2
              replace hm2 := Lib.hid hm2
              clear hb2
              go_wp2_with fail
              go_roundw
              case rel =>
                refine ⟨j + 1, l2, by omega, by go_num, h2.out, hs2.out, fun y => ?_, hB2.out⟩
                rw [hm2.out y, hm'.out y, htk.out, List.mem_append, List.mem_singleton]
                constructor
                · rintro (h | h | h)
                  · exact .inr (.inr h)
                  · exact .inl h
                  · exact .inr (.inl h)
                · rintro (h | h | h)
                  · exact .inr (.inl h)
                  · exact .inr (.inr h)
                  · exact .inl h
              case measure => simp [intOf]; omega
            · obtain rfl : m = j := by omega
              rw [List.take_of_length_le (by rw [hm.out]; exact Nat.le_refl _)] at hm'
              have hlong : p + 1 ≤ p' := by
                obtain ⟨a, ha⟩ := List.exists_mem_of_length_pos (l := mo) (by rw [hm.out]; omega)
                have := past_longer (ss_nodup hss.out) hm' ha (hP.out.re a ha).2
                rw [hp.out, hp'] at this
                exact this
              replace hr' := Lib.hid hr'
              replace hs' := Lib.hid hs'
              replace hre' := Lib.hid hre'
              replace hBw := Lib.hid hBw
              clear hm' hB'
              go_wp2_with fail
              go_roundw
              case rel => exact ⟨l', hr'.out, hs'.out, hre'.out, hBw.out⟩
              case measure => show n + 1 - p' < n + 1 - p; omega
end Go.Proofs.YtalkhiggapbfjaaDoor.Orp
