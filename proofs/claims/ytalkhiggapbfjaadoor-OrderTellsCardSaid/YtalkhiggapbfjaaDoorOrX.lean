/- The document's least, Linear of layer 6. -/
import Derived.Test.YtalkhiggapbfjaaDoorOrW
set_option linter.unusedVariables false
set_option linter.unusedSimpArgs false
namespace Go.Proofs.YtalkhiggapbfjaaDoor.Orp
open Go Go.RowKit Go.Proofs.YtalkhiggapbfjaaDoor.B Go.Proofs.YtalkhiggapbfjaaDoor.St Go.Proofs.YtalkhiggapbfjaaDoor.Mp
open Go.Proofs.YtalkhiggapbfjaaDoor.Hp (ltB le tob ltB_iff)
/-- The least so far. -/
def LeastI (zs : List Nx) (told : List ByteArray) (k : Nat) (best : ByteArray) (found : Bool) : Prop :=
  (found = false ∧ ∀ z ∈ zs.take k, ¬ Ready told z.nd) ∨ (found = true ∧ (∃ z ∈ zs.take k, z.nm = best ∧ Ready told z.nd) ∧ ∀ z ∈ zs.take k, Ready told z.nd → le ltB best z.nm)
theorem LeastI.skip {zs : List Nx} {told : List ByteArray} {k : Nat} {best : ByteArray} {found : Bool} {x : Nx} (h : LeastI zs told k best found) (htk : zs.take (k + 1) = zs.take k ++ [x]) (hx : Ready told x.nd → found = true ∧ le ltB best x.nm) : LeastI zs told (k + 1) best found := by
  unfold LeastI
  rw [htk]
  rcases h with ⟨hf, h⟩ | ⟨hf, ⟨z, hz, e, hr⟩, h⟩
  · refine .inl ⟨hf, fun z hz => ?_⟩
    rcases List.mem_append.1 hz with hz | hz
    · exact h z hz
    · rw [List.mem_singleton.1 hz]
      intro hr
      rw [hf] at hx
      exact absurd (hx hr).1 (by decide)
  · refine .inr ⟨hf, ⟨z, List.mem_append_left _ hz, e, hr⟩, fun y hy hyr => ?_⟩
    rcases List.mem_append.1 hy with hy | hy
    · exact h y hy hyr
    · rw [List.mem_singleton.1 hy] at hyr ⊢
      exact (hx hyr).2
theorem LeastI.take {zs : List Nx} {told : List ByteArray} {k : Nat} {best : ByteArray} {found : Bool} {x : Nx} (h : LeastI zs told k best found) (htk : zs.take (k + 1) = zs.take k ++ [x]) (hr : Ready told x.nd) (hx : found = true → ltB x.nm best) : LeastI zs told (k + 1) x.nm true := by
  unfold LeastI
  rw [htk]
  refine .inr ⟨rfl, ⟨x, by simp, rfl, hr⟩, fun y hy hyr => ?_⟩
  rcases List.mem_append.1 hy with hy | hy
  · rcases h with ⟨_, h⟩ | ⟨hf, _, h⟩
    · exact absurd hyr (h y hy)
    · exact tob.le_tr (tob.lt_le (hx hf)) (h y hy hyr)
  · rw [List.mem_singleton.1 hy]
    exact tob.le_refl _
def LeastP (zs : List Nx) (told : List ByteArray) (w : World) (e : Ending) (w' : World) : Prop := ∃ s b, e = .returned (.tuple #[.string s, .bool b]) ∧ ((b = true ∧ IsLeast ltB (nds zs) told s) ∨ (b = false ∧ Stuck (nds zs) told)) ∧ Below w.heap.size w w'
theorem LeastI.done {zs : List Nx} {told : List ByteArray} {best : ByteArray} {found : Bool} (h : LeastI zs told zs.length best found) : (found = true ∧ IsLeast ltB (nds zs) told best) ∨ (found = false ∧ Stuck (nds zs) told) := by
  unfold LeastI at h
  rw [List.take_of_length_le (Nat.le_refl _)] at h
  rcases h with ⟨hf, h⟩ | ⟨hf, ⟨z, hz, e, hr⟩, h⟩
  · refine .inr ⟨hf, ?_⟩
    rintro s ⟨y, hy, rfl, hr⟩
    obtain ⟨z, hz, rfl⟩ := nds_nd hy
    exact h z hz hr
  · refine .inl ⟨hf, ⟨z.nd, List.mem_map.2 ⟨z, hz, rfl⟩, e, hr⟩, ?_⟩
    rintro t ⟨y, hy, rfl, hyr⟩
    obtain ⟨z', hz', rfl⟩ := nds_nd hy
    exact h z' hz' hyr
noncomputable def allB (l m : List ByteArray) : Bool := open Classical in decide (∀ x ∈ l, x ∈ m)
theorem allB_iff {l m : List ByteArray} : allB l m = true ↔ ∀ x ∈ l, x ∈ m := by unfold allB; simp
set_option maxRecDepth 100000 in
set_option maxHeartbeats 1000000 in
theorem least_c (A B : Option Addr) (c d : Nat) (zs : List Nx) (told : List ByteArray) (w : World) (hS : SetAt w A c zs) (hB : RAt w B told) (n m : Nat) (hn : zs.length = n) (hm : told.length = m) (hn1 : n ≤ 1000) (hm1 : m ≤ 1000000) (hd : ∀ z ∈ zs, z.deps.length ≤ 1000) : Calls Tryd.prog 31 #[.slice A n c, .slice B m d] w (LeastP zs told w) := by
  have hSH := Lib.hid hS
  have hBH := Lib.hid hB
  have hnH := Lib.hid hn
  have hmH := Lib.hid hm
  have hdH := Lib.hid hd
  clear hS hB hn hm hd
  go_enter Tryd.func31, Tryd.ntmps31
  go_wp2_with fail
  go_loopw [6, 7, 8] (fun bv fv iv wr => ∃ (k : Nat) (best : ByteArray) (found : Bool), k ≤ n ∧ iv = .int .i64 k ∧ bv = .string best ∧ fv = .bool found ∧ LeastI zs told k best found ∧ Below w.heap.size w wr) (fun _ _ iv _ => n - (intOf iv).toNat)
  case atStart => exact ⟨0, _, false, Nat.zero_le _, rfl, rfl, rfl, .inl ⟨rfl, by simp⟩, Below.refl _ _⟩
  case round =>
    obtain ⟨k, best, found, hk, rfl, rfl, rfl, hI, hBw⟩ := hrel
    by_cases hlt : k < n
    · have hkz : k < zs.length := by rw [hnH.out]; exact hlt
      obtain ⟨b, o, hA, c0, c1, c2, c3⟩ := (hSH.out.below hBw).get k hkz
      obtain ⟨x, hx⟩ : ∃ x, x = zs[k] := ⟨_, rfl⟩
      rw [← hx] at c0 c1 c2 c3
      subst hA
      have hxm : x ∈ zs := by rw [hx]; exact List.getElem_mem _
      have hxT := (hSH.out.2.2.2 x hxm).2
      have hxd := hdH.out x hxm
      have htk : zs.take (k + 1) = zs.take k ++ [x] := by rw [List.take_succ_eq_append_getElem hkz, hx]
      have hBx := Lib.hid (fun o => hBw.alloc hBw.size o)
      have hin := Lib.hid (fun o => in_c B d told x.nm (wr.alloc o) (hBH.out.keep (hBw.alloc hBw.size o)) m hmH.out hm1)
      have hal := Lib.hid (fun o => all_c x.D B x.dc d x.deps told (wr.alloc o) (hxT.rat.keep (hBw.alloc hBw.size o)) (hBH.out.keep (hBw.alloc hBw.size o)) x.deps.length m rfl hmH.out (by omega) hm1 (allB x.deps told) allB_iff)
      replace htk := Lib.hid htk
      replace hx := Lib.hid hx
      replace hxT := Lib.hid hxT
      replace hxm := Lib.hid hxm
      replace hI := Lib.hid hI
      clear hBw
      by_cases hi1 : x.nm ∈ told
      · have hb1 : inB told x.nm = true := inB_iff.2 hi1
        replace hi1 := Lib.hid hi1
        replace hb1 := Lib.hid hb1
        go_wp2_with fail
        refine (hin.out _).mono ?_
        rintro e w1 ⟨he, rfl⟩
        rw [hb1.out] at he
        subst he
        go_wp2_with fail
        go_roundw
        case rel => exact ⟨k + 1, best, found, by omega, by go_num, rfl, rfl, hI.out.skip htk.out fun hr => absurd hi1.out hr.1, hBx.out _⟩
        case measure => simp [intOf]; omega
      · have hb1 : inB told x.nm = false := by rw [Bool.eq_false_iff]; exact fun h => hi1 (inB_iff.1 h)
        replace hi1 := Lib.hid hi1
        replace hb1 := Lib.hid hb1
        by_cases ha1 : ∀ d ∈ x.deps, d ∈ told
        · have hb2 : allB x.deps told = true := allB_iff.2 ha1
          have hr : Ready told x.nd := ⟨hi1.out, ha1⟩
          replace hb2 := Lib.hid hb2
          replace hr := Lib.hid hr
          clear ha1
          cases found
          · go_wp2_with fail
            refine (hin.out _).mono ?_
            rintro e w1 ⟨he, rfl⟩
            rw [hb1.out] at he
            subst he
            go_wp2_with fail
            refine (hal.out _).mono ?_
            rintro e w1 ⟨he, rfl⟩
            rw [hb2.out] at he
            subst he
            go_wp2_with fail
            go_roundw
            case rel => exact ⟨k + 1, x.nm, true, by omega, by go_num, rfl, rfl, hI.out.take htk.out hr.out (fun h => absurd h (by decide)), hBx.out _⟩
            case measure => simp [intOf]; omega
          · by_cases hl1 : ltB x.nm best
            · have hq : Op.bytesLess x.nm.toList best.toList = true := hl1
              replace hl1 := Lib.hid hl1
              go_wp2_with fail
              refine (hin.out _).mono ?_
              rintro e w1 ⟨he, rfl⟩
              rw [hb1.out] at he
              subst he
              go_wp2_with fail
              refine (hal.out _).mono ?_
              rintro e w1 ⟨he, rfl⟩
              rw [hb2.out] at he
              subst he
              go_wp2_with fail
              go_roundw
              case rel => exact ⟨k + 1, x.nm, true, by omega, by go_num, rfl, rfl, hI.out.take htk.out hr.out (fun _ => hl1.out), hBx.out _⟩
              case measure => simp [intOf]; omega
            · have hq : Op.bytesLess x.nm.toList best.toList = false := by
                have := hl1
                unfold ltB at this
                simpa using this
              replace hl1 := Lib.hid hl1
              go_wp2_with fail
              refine (hin.out _).mono ?_
              rintro e w1 ⟨he, rfl⟩
              rw [hb1.out] at he
              subst he
              go_wp2_with fail
              refine (hal.out _).mono ?_
              rintro e w1 ⟨he, rfl⟩
              rw [hb2.out] at he
              subst he
              go_wp2_with fail
              go_roundw
              case rel => exact ⟨k + 1, best, true, by omega, by go_num, rfl, rfl, hI.out.skip htk.out fun _ => ⟨rfl, hl1.out⟩, hBx.out _⟩
              case measure => simp [intOf]; omega
        · have hb2 : allB x.deps told = false := by rw [Bool.eq_false_iff]; exact fun h => ha1 (allB_iff.1 h)
          replace hb2 := Lib.hid hb2
          replace ha1 := Lib.hid ha1
          go_wp2_with fail
          refine (hin.out _).mono ?_
          rintro e w1 ⟨he, rfl⟩
          rw [hb1.out] at he
          subst he
          go_wp2_with fail
          refine (hal.out _).mono ?_
          rintro e w1 ⟨he, rfl⟩
          rw [hb2.out] at he
          subst he
          go_wp2_with fail
          go_roundw
          case rel => exact ⟨k + 1, best, found, by omega, by go_num, rfl, rfl, hI.out.skip htk.out fun hr => absurd hr.2 ha1.out, hBx.out _⟩
          case measure => simp [intOf]; omega
    · obtain rfl : n = k := by omega
      rw [← hnH.out] at hI
      have hdn := Lib.hid hI.done
      have hBwH := Lib.hid hBw
      clear hI hBw
      go_wp2_with fail
      go_ret2
      exact ⟨_, _, rfl, hdn.out, hBwH.out⟩
end Go.Proofs.YtalkhiggapbfjaaDoor.Orp
