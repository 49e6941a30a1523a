/- The document's Linear of layer 6. -/
import Derived.Test.YtalkhiggapbfjaaDoorOrX
import Derived.Deep.RegionHeldLaw
set_option linter.unusedVariables false
set_option linter.unusedSimpArgs false
namespace Go.Proofs.YtalkhiggapbfjaaDoor.Orp
open Go Go.RowKit Go.Proofs.YtalkhiggapbfjaaDoor.B Go.Proofs.YtalkhiggapbfjaaDoor.St Go.Proofs.YtalkhiggapbfjaaDoor.Mp
open Go.Proofs.YtalkhiggapbfjaaDoor.Hp (ltB le tob ltB_iff)
def LinRR (zs : List Nx) (base : Nat) (w' : World) (v : Value) (k : Int) : Prop :=
  (¬ (names zs).Nodup ∧ v = .slice none 0 0 ∧ k = 12) ∨
  ((names zs).Nodup ∧ ∃ l, Lin ltB (nds zs) l ∧ ((l.length < zs.length ∧ v = .slice none 0 0 ∧ k = 11) ∨ (l.length = zs.length ∧ k = 0 ∧ SRow base w' v l)))
def LinRP (zs : List Nx) (w : World) (e : Ending) (w' : World) : Prop := ∃ v k, e = .returned (.tuple #[v, .int .i64 k]) ∧ LinRR zs w.heap.size w' v k ∧ Below w.heap.size w w'
def lenV : Value → Nat | .slice _ n _ => n | _ => 0
set_option maxRecDepth 100000 in
set_option maxHeartbeats 1000000 in
theorem linr_c (A : Option Addr) (c : Nat) (zs : List Nx) (w : World) (hS : SetAt w A c zs) (n : Nat) (hn : zs.length = n) (hn1 : n ≤ 1000) (hd : ∀ z ∈ zs, z.deps.length ≤ 1000) : Calls Tryd.prog 12 #[.slice A n c] w (LinRP zs w) := by
  have hSH := Lib.hid hS
  have hnH := Lib.hid hn
  have hdH := Lib.hid hd
  have hnm := Lib.hid (names_c A c zs w hS n hn hn1)
  clear hS hn hd
  go_enter Tryd.func12, Tryd.ntmps12
  go_wp2_with fail
  refine hnm.out.mono ?_
  rintro e w1 ⟨v1, rfl, hr1, hb1⟩
  obtain ⟨A1, c1, hv1⟩ := hr1.shape
  have hnl : (names zs).length = n := by unfold names; rw [List.length_map, hnH.out]
  rw [hnl] at hv1
  subst hv1
  replace hr1 := Lib.hid hr1
  replace hb1 := Lib.hid hb1
  clear hnm
  go_wp2_with fail
  go_loopw [5] (fun iv wr => ∃ k q : Nat, k ≤ n ∧ iv = .int .i64 k ∧ ((names zs).take k).Nodup ∧ wr = w1.drewN q) (fun iv _ => n - (intOf iv).toNat)
  case atStart => exact ⟨0, 0, Nat.zero_le _, rfl, by simp, rfl⟩
  case round =>
    obtain ⟨k, q, hk, rfl, hnd, hwr⟩ := hrel
    have hrw : SRow w.heap.size wr (.slice A1 n c1) (names zs) := hr1.out.same fun _ _ => by rw [hwr]; rfl
    have hbw : Below w.heap.size w wr := by rw [hwr]; exact below_drewN hb1.out q
    by_cases hlt : k < n
    · obtain ⟨g, hg, -⟩ := hrw.addr (by omega)
      have hcap := SRow.le hrw
      rw [hnl] at hcap
      have hcm : c1 ≤ maxLen := by
        rcases hrw.form with ⟨e, _⟩ | ⟨g', cap, cur, e, _, _, _, h5, _⟩
        · cases e; unfold maxLen; omega
        · cases e; exact h5
      unfold maxLen at hcm
      subst hg
      have hkl : k < (names zs).length := by rw [hnl]; exact hlt
      have cx := hrw.at k hkl
      obtain ⟨s, hs⟩ : ∃ s, s = (names zs).getD k ByteArray.empty := ⟨_, rfl⟩
      rw [← hs] at cx
      have hsk : (names zs)[k] = s := by rw [hs, List.getD_eq_getElem?_getD, List.getElem?_eq_getElem hkl]; rfl
      have htk : (names zs).take (k + 1) = (names zs).take k ++ [s] := by rw [List.take_succ_eq_append_getElem hkl, hsk]
      have hra : RAt wr.drew (some ⟨g, 0, none⟩) ((names zs).take k) := by
        obtain ⟨b, o, e, hc⟩ := (SRow.rat hrw).1 (by rw [hnl]; omega)
        refine fun h0 => ⟨b, o, e, fun j hj => ?_⟩
        rw [List.length_take, hnl] at hj
        have := hc j (by rw [hnl]; omega)
        rw [List.getD_eq_getElem?_getD] at this ⊢
        rw [List.getElem?_take, if_pos (by omega)]
        exact this
      have hin := Lib.hid (in_c (some ⟨g, 0, none⟩) c1 ((names zs).take k) s wr.drew hra k (by rw [List.length_take, hnl]; omega) (by omega))
      replace hs := Lib.hid hs
      replace htk := Lib.hid htk
      replace hnd := Lib.hid hnd
      replace hbw := Lib.hid hbw
      replace hwr := Lib.hid hwr
      replace hrw := Lib.hid hrw
      clear hra hsk
      by_cases hi : s ∈ (names zs).take k
      · have hb : inB ((names zs).take k) s = true := inB_iff.2 hi
        replace hi := Lib.hid hi
        replace hb := Lib.hid hb
        go_wp2_with fail
        go_region_held_law (fun w' => w'.cell? ⟨g, k, none⟩ = some (.string s)) (go_keep)
          ((go_at_call 30
            refine hin.out.mono ?_
            rintro e w2 ⟨he, rfl⟩
            rw [hb.out] at he
            subst he))
        go_wp2_with fail
        go_ret2
        exact ⟨_, _, rfl, .inl ⟨nodup_dup htk.out hi.out, rfl, rfl⟩, below_drewN hbw.out 1⟩
      · have hb : inB ((names zs).take k) s = false := by rw [Bool.eq_false_iff]; exact fun h => hi (inB_iff.1 h)
        replace hi := Lib.hid hi
        replace hb := Lib.hid hb
        go_wp2_with fail
        go_region_held_law (fun w' => w'.cell? ⟨g, k, none⟩ = some (.string s)) (go_keep)
          ((go_at_call 30
            refine hin.out.mono ?_
            rintro e w2 ⟨he, rfl⟩
            rw [hb.out] at he
            subst he))
        go_wp2_with fail
        go_roundw
        case rel => exact ⟨k + 1, q + 1, by omega, by go_num, by rw [htk.out]; exact nodup_snoc hnd.out hi.out, by rw [hwr.out]; rfl⟩
        case measure => simp [intOf]; omega
    · obtain rfl : n = k := by omega
      rw [List.take_of_length_le (by rw [hnl]; exact Nat.le_refl _)] at hnd
      obtain ⟨wA, hwA⟩ : ∃ wA, wA = wr := ⟨_, rfl⟩
      subst hwA
      replace hnd := Lib.hid hnd
      replace hbw := Lib.hid hbw
      clear hwr hrw hr1 hb1
      go_wp2_with fail
      go_loopw [6] (fun tv wr => ∃ told : List ByteArray, SRow w.heap.size wr tv told ∧ Greedy ltB (nds zs) told ∧ told.length ≤ n ∧ Below w.heap.size w wr) (fun tv _ => n - lenV tv)
      case atStart => exact ⟨[], SRow.nil _ _, .nil, Nat.zero_le _, hbw.out⟩
      case round =>
        clear hbw
        obtain ⟨told, hrt, hG, htl, hBt⟩ := hrel
        obtain ⟨At, ct, hv⟩ := hrt.shape
        obtain ⟨m, hm⟩ : ∃ m, told.length = m := ⟨_, rfl⟩
        rw [hm] at hv htl
        subst hv
        by_cases hlt2 : m < n
        · have hle := Lib.hid (least_c A At c ct zs told wr (hSH.out.below hBt) (SRow.rat hrt).1 n m hnH.out hm hn1 (by omega) hdH.out)
          replace hrt := Lib.hid hrt
          replace hG := Lib.hid hG
          replace hBt := Lib.hid hBt
          replace hm := Lib.hid hm
          go_wp2_with fail
          refine hle.out.mono ?_
          rintro e w2 ⟨s, b, rfl, hcase, hb2⟩
          have hB2 : Below w.heap.size w w2 := hBt.out.trans (hb2.mono hBt.out.size)
          have hr2 := srow_below hrt.out hb2
          have hs2 := hB2.size
          replace hB2 := Lib.hid hB2
          replace hr2 := Lib.hid hr2
          rcases hcase with ⟨rfl, hl⟩ | ⟨rfl, hst⟩
          · have hG2 := Lib.hid (Greedy.snoc told s hG.out hl)
            clear hl hb2
            go_wp2_with (at_builtin; go_loud (refine str_app rfl _ _ 25 rfl Tryd.underlying25 rfl m 1 rfl hr2.out hm.out (by omega) hs2 ?_; intro g6 cap6 w6 hr6 hg6 hl6; replace hr6 := Lib.hid hr6; replace hg6 := Lib.hid hg6; replace hl6 := Lib.hid hl6))
            go_roundw
            case rel => exact ⟨told ++ [s], hr6.out, hG2.out, by rw [List.length_append, hm.out]; show m + 1 ≤ n; omega, below_grew hB2.out hs2 hg6.out (fun j hj => (hr2.out.lt j hj).1)⟩
            case measure => show n - (m + 1) < n - m; omega
          · have hres := Lib.hid (show LinRR zs w.heap.size w2 (.slice none 0 0) 11 from .inr ⟨hnd.out, told, ⟨hG.out, hst⟩, .inl ⟨by rw [hm.out, hnH.out]; exact hlt2, rfl, rfl⟩⟩)
            clear hst hb2
            go_wp2_with fail
            go_ret2
            exact ⟨_, _, rfl, hres.out, hB2.out⟩
        · obtain rfl : n = m := by omega
          have hlin : Lin ltB (nds zs) told := ⟨hG, full_stuck hG (by rw [names_nds]; exact hnd.out) (by unfold nds; rw [List.length_map, hnH.out, hm]; exact Nat.le_refl _)⟩
          have hres := Lib.hid (show LinRR zs w.heap.size wr (.slice At n ct) 0 from .inr ⟨hnd.out, told, hlin, .inr ⟨by rw [hm, hnH.out], rfl, hrt⟩⟩)
          replace hBt := Lib.hid hBt
          clear hlin hrt hG hm
          go_wp2_with fail
          go_ret2
          exact ⟨_, _, rfl, hres.out, hBt.out⟩
end Go.Proofs.YtalkhiggapbfjaaDoor.Orp
