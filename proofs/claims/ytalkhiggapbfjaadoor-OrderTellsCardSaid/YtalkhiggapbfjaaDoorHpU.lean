/- container/heap over order's ready: up, down, Push, Pop. -/
import Derived.Test.YtalkhiggapbfjaaDoorHpW
import Derived.LoopTactic
import Derived.Deep.LoopGhost
import Derived.Deep.Cut
set_option linter.unusedVariables false
set_option linter.unusedSimpArgs false
namespace Go.Proofs.YtalkhiggapbfjaaDoor.Hp
open Go Go.RowKit Go.Proofs.YtalkhiggapbfjaaDoor.B Go.Proofs.YtalkhiggapbfjaaDoor.St
abbrev d0 : ByteArray := ByteArray.empty
theorem less_lt : ∀ (x y : List UInt8), Op.bytesLess x y = decide (x < y)
  | [], [] => by simp [Op.bytesLess]
  | _ :: _, [] => by simp [Op.bytesLess]
  | [], _ :: _ => by simp [Op.bytesLess]
  | a :: x, b :: y => by
    rw [Op.bytesLess, less_lt x y]
    simp only [List.cons_lt_cons_iff]
    by_cases h1 : a < b <;> by_cases h2 : a = b <;> by_cases h3 : x < y <;> simp [h1, h2, h3]
theorem ltB_iff (x y : ByteArray) : ltB x y ↔ x.data.toList < y.data.toList := by
  unfold ltB
  rw [less_lt, ByteArray.toList_eq, ByteArray.toList_eq]
  simp
theorem tob : TO ltB where
  irr := fun x => by rw [ltB_iff]; exact List.lt_irrefl _
  tr := fun x y z h k => by rw [ltB_iff] at *; exact List.lt_trans h k
  tot := fun x y hne => by
    rw [ltB_iff, ltB_iff]
    have hl : x.data.toList ≠ y.data.toList := fun e => hne (ByteArray.ext (Array.ext' e))
    rcases Std.lt_trichotomy x.data.toList y.data.toList with h | h | h
    · exact .inl h
    · exact absurd h hl
    · exact .inr h
theorem par_q (j : Nat) (h : 0 < j) : ((j : Int) - 1) / 2 = (par j : Nat) := by unfold par; omega
def UpRel (R base : Nat) (v0 : Value) (l0 : List ByteArray) (w0 : World) (j : Nat) (w : World) : Prop := ∃ v l, UpInv ltB d0 l j ∧ l.Perm l0 ∧ HAt R base v l w ∧ Hgr R v0 v w0 w
def UpPost (R base : Nat) (v0 : Value) (l0 : List ByteArray) (w0 : World) (e : Ending) (w : World) : Prop := e = .returned (.tuple #[]) ∧ ∃ v l, IsHeap ltB d0 l ∧ l.Perm l0 ∧ HAt R base v l w ∧ Hgr R v0 v w0 w
theorem up_step {R base g cap n j i : Nat} {v0 : Value} {l0 l : List ByteArray} {w0 w w1 : World} (hr : UpRel R base v0 l0 w0 j w) (hA : HAt R base (.slice (some ⟨g, 0, none⟩) n cap) l w) (hs : UpInv ltB d0 (sw d0 l (par j) j) (par j)) (hi : i = par j)
    (hrow : SRow base w1 (.slice (some ⟨g, 0, none⟩) n cap) (sw d0 l i j)) (hg : Grew (.slice (some ⟨g, 0, none⟩) n cap) w w1) (hp : l.Perm l0) (hg0 : Hgr R v0 (.slice (some ⟨g, 0, none⟩) n cap) w0 w) (hj : j < l.length) (hij : i < j) : UpRel R base v0 l0 w0 i w1 := by
  subst hi
  have hne := hA.ne
  exact ⟨_, _, hs, (sw_perm d0 l (par j) j (by omega) hj).trans hp, ⟨hg.heap hA.1 hne, hrow, Nat.le_trans hA.2.2 hg.1⟩, hg0.trans (Hgr.of_grew hg rfl)⟩
set_option maxRecDepth 100000 in
set_option maxHeartbeats 1000000 in
theorem up_c {R base : Nat} {v0 : Value} {l0 : List ByteArray} {w : World} {j0 : Nat} (h : HAt R base v0 l0 w) (hu : UpInv ltB d0 l0 j0) (hm : l0.length ≤ 1000000) :
    Calls Tryd.prog 38 #[.iface 52 (.pointer (some ⟨R, 0, none⟩)), .int .i64 j0] w (UpPost R base v0 l0 w) := by
  have h0 : UpRel R base v0 l0 w j0 w := ⟨v0, l0, hu, .refl _, h, Hgr.refl _ _ _⟩
  clear h hu
  go_enter Tryd.func38, Tryd.ntmps38
  go_wp2
  go_loopw [1] (fun jv wr => ∃ j : Nat, jv = .int .i64 j ∧ UpRel R base v0 l0 w j wr) (fun jv _ => (intOf jv).toNat)
  case atStart => exact ⟨j0, rfl, h0⟩
  case round =>
    obtain ⟨j, rfl, hr⟩ := hrel
    have hr' := Lib.hid hr
    obtain ⟨v, l, hu, hp, hA, hg⟩ := hr
    have hjl := hu.1
    have hlen := hp.length_eq
    have cR : wr.cell? ⟨R, 0, none⟩ = some v := cell_of hA.1 0
    obtain ⟨g, cap, rfl⟩ : ∃ g cap, v = .slice (some ⟨g, 0, none⟩) l.length cap := by
      rcases hA.2.1.form with ⟨_, e⟩ | ⟨g, cap, cur, rfl, _⟩
      · rw [e] at hjl; exact absurd hjl (by simp)
      · exact ⟨g, cap, rfl⟩
    have ml := meth_less cR
    replace hlen := Lib.hid hlen
    by_cases hj0 : j = 0
    · subst hj0
      go_wp2_with fail
      go_end0
      exact ⟨rfl, _, l, hu.done (.inl rfl), hp, hA, hg⟩
    · obtain ⟨i, hi⟩ : ∃ i, i = par j := ⟨_, rfl⟩
      obtain ⟨p, hq⟩ : ∃ p : Nat, (j : Int) - 1 = p := ⟨j - 1, by omega⟩
      have hq2 : (p : Int) / 2 = (i : Nat) := by rw [hi]; unfold par; omega
      have hij : i < j := by rw [hi]; exact par_lt (by omega)
      have hpb : (p : Int) ≤ 1000000 := by have := hlen.out; omega
      have hne : ((i : Int) == (j : Int)) = false := by simpa using (show ¬ (i : Int) = j by omega)
      have hrow := Lib.hid hA.2.1
      by_cases hlt : ltB (l.getD j d0) (l.getD i d0)
      · have hb : Op.bytesLess (l.getD j ByteArray.empty).toList (l.getD i ByteArray.empty).toList = true := hlt
        have hstep := Lib.hid (hu.step tob (by omega) (by rw [← hi]; exact hlt))
        replace hi := Lib.hid hi
        replace hb := Lib.hid hb
        have hAh := Lib.hid hA
        have hgh := Lib.hid hg
        have hph := Lib.hid hp
        clear hu hA hj0 hlt hp hg
        go_wp2_with fail
        refine (less_c hrow.out rfl j i (by omega) (by omega) (by have := hlen.out; omega) true hb.out).mono ?_
        rintro e w1 ⟨rfl, k, rfl⟩
        have ms := meth_swap (w := wr.drewN k) cR
        go_wp2_with fail
        refine (swap_c (w := wr.drewN k) hrow.out rfl i j (by omega) (by omega) (by have := hlen.out; omega)).mono ?_
        rintro e w1 ⟨rfl, hrow1, hgrow1⟩
        replace hrow1 := Lib.hid hrow1
        replace hgrow1 := Lib.hid hgrow1
        go_wp2_with fail
        go_roundw
        case rel => exact ⟨i, rfl, up_step hr'.out hAh.out hstep.out hi.out hrow1.out hgrow1.out hph.out hgh.out hjl hij⟩
        case measure => simp [intOf]; omega
      · have hb : Op.bytesLess (l.getD j ByteArray.empty).toList (l.getD i ByteArray.empty).toList = false := by
          have := hlt
          unfold ltB at this
          simpa using this
        have hdone := Lib.hid (hu.done (.inr (by rw [← hi]; exact hlt)))
        replace hb := Lib.hid hb
        have hAh := Lib.hid hA
        have hgh := Lib.hid hg
        have hph := Lib.hid hp
        clear hu hA hj0 hlt hp hg hi
        go_wp2_with fail
        refine (less_c hrow.out rfl j i (by omega) (by omega) (by have := hlen.out; omega) false hb.out).mono ?_
        rintro e w1 ⟨rfl, k, rfl⟩
        go_wp2_with fail
        go_end0
        exact ⟨rfl, _, l, hdone.out, hph.out, hAh.out, hgh.out⟩
def DnRel (R base : Nat) (v0 : Value) (l0 : List ByteArray) (w0 : World) (n i : Nat) (w : World) : Prop := ∃ v l, DownSt ltB d0 l0 l i n ∧ HAt R base v l w ∧ Hgr R v0 v w0 w
def DnPost (R base : Nat) (v0 : Value) (l0 : List ByteArray) (w0 : World) (n : Nat) (e : Ending) (w : World) : Prop := (∃ b, e = .returned (.bool b)) ∧ ∃ v l, HeapTo ltB d0 l n ∧ l.Perm l0 ∧ (∀ k, n ≤ k → l.getD k d0 = l0.getD k d0) ∧ HAt R base v l w ∧ Hgr R v0 v w0 w
theorem dn_step {R base g cap m n i j : Nat} {v0 : Value} {l0 l : List ByteArray} {w0 w w1 : World} (hn : n ≤ l0.length) (hd : DownSt ltB d0 l0 l i n) (hL : Lesser ltB d0 l i n j) (hlt : ltB (l.getD j d0) (l.getD i d0)) (hA : HAt R base (.slice (some ⟨g, 0, none⟩) m cap) l w)
    (hrow : SRow base w1 (.slice (some ⟨g, 0, none⟩) m cap) (sw d0 l i j)) (hg : Grew (.slice (some ⟨g, 0, none⟩) m cap) w w1) (hg0 : Hgr R v0 (.slice (some ⟨g, 0, none⟩) m cap) w0 w) : DnRel R base v0 l0 w0 n j w1 := by
  have hne := hA.ne
  exact ⟨_, _, hd.step tob hn hL hlt, ⟨hg.heap hA.1 hne, hrow, Nat.le_trans hA.2.2 hg.1⟩, hg0.trans (Hgr.of_grew hg rfl)⟩
set_option maxRecDepth 100000 in
set_option maxHeartbeats 4000000 in
theorem down_c {R base n : Nat} {v0 : Value} {l0 : List ByteArray} {w : World} (h : HAt R base v0 l0 w) (hu : DownInv ltB d0 l0 0 n) (hn : n ≤ l0.length) (hm : l0.length ≤ 1000000) :
    Calls Tryd.prog 39 #[.iface 52 (.pointer (some ⟨R, 0, none⟩)), .int .i64 0, .int .i64 n] w (DnPost R base v0 l0 w n) := by
  have h0 : DnRel R base v0 l0 w n 0 w := ⟨v0, l0, ⟨hu, .refl _, fun _ _ => rfl⟩, h, Hgr.refl _ _ _⟩
  clear h hu
  go_enter Tryd.func39, Tryd.ntmps39
  go_wp2
  go_loopw [7] (fun iv wr => ∃ i : Nat, iv = .int .i64 i ∧ i ≤ n ∧ DnRel R base v0 l0 w n i wr) (fun iv _ => n - (intOf iv).toNat)
  case atStart => exact ⟨0, rfl, Nat.zero_le _, h0⟩
  case round =>
    obtain ⟨i, rfl, hin, v, l, hd, hA, hg⟩ := hrel
    have hlen := hd.2.1.length_eq
    have hib : (i : Int) ≤ 1000000 := by omega
    have hnb : (n : Int) ≤ 1000000 := by omega
    by_cases hend : n ≤ 2 * i + 1
    · have he : (n : Int) ≤ 2 * (i : Int) + 1 := by omega
      have hdone := Lib.hid (hd.1.none hend)
      replace hlen := Lib.hid hlen
      replace hd := Lib.hid hd
      replace hA := Lib.hid hA
      replace hg := Lib.hid hg
      go_wp2_with fail
      go_ret
      exact ⟨⟨_, rfl⟩, v, l, hdone.out, hd.out.2.1, hd.out.2.2, hA.out, hg.out⟩
    · have hll : 0 < l.length := by omega
      have cR : wr.cell? ⟨R, 0, none⟩ = some v := cell_of hA.1 0
      obtain ⟨g, cap, rfl⟩ : ∃ g cap, v = .slice (some ⟨g, 0, none⟩) l.length cap := by
        rcases hA.2.1.form with ⟨_, e⟩ | ⟨g, cap, cur, rfl, _⟩
        · rw [e] at hll; exact absurd hll (by simp)
        · exact ⟨g, cap, rfl⟩
      have ml := meth_less cR
      have hrow := Lib.hid hA.2.1
      obtain ⟨a, ha⟩ : ∃ a, a = 2 * i + 1 := ⟨_, rfl⟩
      obtain ⟨b, hbb⟩ : ∃ b, b = 2 * i + 2 := ⟨_, rfl⟩
      have hia : i < a ∧ i < b := ⟨by omega, by omega⟩
      have hlen' := Lib.hid hlen
      have q1 : 2 * (i : Int) + 1 = (a : Nat) := by omega
      have q2 : (a : Int) + 1 = (b : Nat) := by omega
      have a1 : (a : Int) < n := by omega
      have hab : (b : Int) ≤ 1000002 := by omega
      have hln : n ≤ l.length := by omega
      have hlb : l.length ≤ 1000000 := by omega
      by_cases h2 : n ≤ b
      · have h2' : (n : Int) ≤ b := by omega
        have hL := Lib.hid (show Lesser ltB d0 l i n a by rw [ha]; exact lesser_left tob (by omega) (.inl (by omega)))
        by_cases hlt : ltB (l.getD a d0) (l.getD i d0)
        · have hb : Op.bytesLess (l.getD a ByteArray.empty).toList (l.getD i ByteArray.empty).toList = true := hlt
          replace hb := Lib.hid hb
          have hltH := Lib.hid hlt
          have hdH := Lib.hid hd
          have hAH := Lib.hid hA
          have hgH := Lib.hid hg
          clear hlt hd hA hg ha hbb hlen
          go_wp2_with fail
          refine (less_c (w := wr) hrow.out rfl a i (by omega) (by omega) (by omega) true hb.out).mono ?_
          rintro e w1 ⟨rfl, k, rfl⟩
          have ms := meth_swap (w := wr.drewN k) cR
          go_wp2_with fail
          refine (swap_c (w := wr.drewN k) hrow.out rfl i a (by omega) (by omega) (by omega)).mono ?_
          rintro e w1 ⟨rfl, hrow1, hgrow1⟩
          replace hrow1 := Lib.hid hrow1
          replace hgrow1 := Lib.hid hgrow1
          go_wp2_with fail
          go_roundw
          case rel => exact ⟨a, rfl, by omega, dn_step hn hdH.out hL.out hltH.out hAH.out hrow1.out hgrow1.out hgH.out⟩
          case measure => simp [intOf]; omega
        · have hb : Op.bytesLess (l.getD a ByteArray.empty).toList (l.getD i ByteArray.empty).toList = false := by
            have := hlt
            unfold ltB at this
            simpa using this
          replace hb := Lib.hid hb
          have hdone := Lib.hid (hd.1.stop tob hL.out hlt)
          have hdH := Lib.hid hd
          have hAH := Lib.hid hA
          have hgH := Lib.hid hg
          clear hlt hd hA hg ha hbb hlen
          go_wp2_with fail
          refine (less_c (w := wr) hrow.out rfl a i (by omega) (by omega) (by omega) false hb.out).mono ?_
          rintro e w1 ⟨rfl, k, rfl⟩
          go_wp2_with fail
          go_ret
          exact ⟨⟨_, rfl⟩, _, l, hdone.out, hdH.out.2.1, hdH.out.2.2, hAH.out, hgH.out⟩
      · have h2' : (b : Int) < n := by omega
        by_cases hc : ltB (l.getD b d0) (l.getD a d0)
        · have hc' : Op.bytesLess (l.getD b ByteArray.empty).toList (l.getD a ByteArray.empty).toList = true := hc
          have hcl := hc
          rw [hbb, ha] at hcl
          replace hc := Lib.hid hc'
          clear hc'
          have hL := Lib.hid (show Lesser ltB d0 l i n b by rw [hbb]; exact lesser_right tob (by omega) hcl)
          by_cases hlt : ltB (l.getD b d0) (l.getD i d0)
          · have hb : Op.bytesLess (l.getD b ByteArray.empty).toList (l.getD i ByteArray.empty).toList = true := hlt
            replace hb := Lib.hid hb
            have hltH := Lib.hid hlt
            have hdH := Lib.hid hd
            have hAH := Lib.hid hA
            have hgH := Lib.hid hg
            clear hlt hd hA hg ha hbb hlen
            go_wp2_with fail
            refine (less_c hrow.out rfl b a (by omega) (by omega) (by omega) true hc.out).mono ?_
            rintro e w1 ⟨rfl, k0, rfl⟩
            have ml1 := meth_less (w := wr.drewN k0) cR
            go_wp2_with fail
            refine (less_c (w := wr.drewN k0) hrow.out rfl b i (by omega) (by omega) (by omega) true hb.out).mono ?_
            rintro e w1 ⟨rfl, k, rfl⟩
            have ms := meth_swap (w := wr.drewN (k0 + k)) cR
            go_wp2_with fail
            refine (swap_c (w := wr.drewN (k0 + k)) hrow.out rfl i b (by omega) (by omega) (by omega)).mono ?_
            rintro e w1 ⟨rfl, hrow1, hgrow1⟩
            replace hrow1 := Lib.hid hrow1
            replace hgrow1 := Lib.hid hgrow1
            go_wp2_with fail
            go_roundw
            case rel => exact ⟨b, rfl, by omega, dn_step hn hdH.out hL.out hltH.out hAH.out hrow1.out hgrow1.out hgH.out⟩
            case measure => simp [intOf]; omega
          · have hb : Op.bytesLess (l.getD b ByteArray.empty).toList (l.getD i ByteArray.empty).toList = false := by
              have := hlt
              unfold ltB at this
              simpa using this
            replace hb := Lib.hid hb
            have hdone := Lib.hid (hd.1.stop tob hL.out hlt)
            have hdH := Lib.hid hd
            have hAH := Lib.hid hA
            have hgH := Lib.hid hg
            clear hlt hd hA hg ha hbb hlen
            go_wp2_with fail
            refine (less_c hrow.out rfl b a (by omega) (by omega) (by omega) true hc.out).mono ?_
            rintro e w1 ⟨rfl, k0, rfl⟩
            have ml1 := meth_less (w := wr.drewN k0) cR
            go_wp2_with fail
            refine (less_c (w := wr.drewN k0) hrow.out rfl b i (by omega) (by omega) (by omega) false hb.out).mono ?_
            rintro e w1 ⟨rfl, k, rfl⟩
            go_wp2_with fail
            go_ret
            exact ⟨⟨_, rfl⟩, _, l, hdone.out, hdH.out.2.1, hdH.out.2.2, hAH.out, hgH.out⟩
        · have hc' : Op.bytesLess (l.getD b ByteArray.empty).toList (l.getD a ByteArray.empty).toList = false := by
            have := hc
            unfold ltB at this
            simpa using this
          have hcl := hc
          rw [hbb, ha] at hcl
          replace hc := Lib.hid hc'
          clear hc'
          have hL := Lib.hid (show Lesser ltB d0 l i n a by rw [ha]; exact lesser_left tob (by omega) (.inr hcl))
          by_cases hlt : ltB (l.getD a d0) (l.getD i d0)
          · have hb : Op.bytesLess (l.getD a ByteArray.empty).toList (l.getD i ByteArray.empty).toList = true := hlt
            replace hb := Lib.hid hb
            have hltH := Lib.hid hlt
            have hdH := Lib.hid hd
            have hAH := Lib.hid hA
            have hgH := Lib.hid hg
            clear hlt hd hA hg ha hbb hlen
            go_wp2_with fail
            refine (less_c hrow.out rfl b a (by omega) (by omega) (by omega) false hc.out).mono ?_
            rintro e w1 ⟨rfl, k0, rfl⟩
            have ml1 := meth_less (w := wr.drewN k0) cR
            go_wp2_with fail
            refine (less_c (w := wr.drewN k0) hrow.out rfl a i (by omega) (by omega) (by omega) true hb.out).mono ?_
            rintro e w1 ⟨rfl, k, rfl⟩
            have ms := meth_swap (w := wr.drewN (k0 + k)) cR
            go_wp2_with fail
            refine (swap_c (w := wr.drewN (k0 + k)) hrow.out rfl i a (by omega) (by omega) (by omega)).mono ?_
            rintro e w1 ⟨rfl, hrow1, hgrow1⟩
            replace hrow1 := Lib.hid hrow1
            replace hgrow1 := Lib.hid hgrow1
            go_wp2_with fail
            go_roundw
            case rel => exact ⟨a, rfl, by omega, dn_step hn hdH.out hL.out hltH.out hAH.out hrow1.out hgrow1.out hgH.out⟩
            case measure => simp [intOf]; omega
          · have hb : Op.bytesLess (l.getD a ByteArray.empty).toList (l.getD i ByteArray.empty).toList = false := by
              have := hlt
              unfold ltB at this
              simpa using this
            replace hb := Lib.hid hb
            have hdone := Lib.hid (hd.1.stop tob hL.out hlt)
            have hdH := Lib.hid hd
            have hAH := Lib.hid hA
            have hgH := Lib.hid hg
            clear hlt hd hA hg ha hbb hlen
            go_wp2_with fail
            refine (less_c hrow.out rfl b a (by omega) (by omega) (by omega) false hc.out).mono ?_
            rintro e w1 ⟨rfl, k0, rfl⟩
            have ml1 := meth_less (w := wr.drewN k0) cR
            go_wp2_with fail
            refine (less_c (w := wr.drewN k0) hrow.out rfl a i (by omega) (by omega) (by omega) false hb.out).mono ?_
            rintro e w1 ⟨rfl, k, rfl⟩
            go_wp2_with fail
            go_ret
            exact ⟨⟨_, rfl⟩, _, l, hdone.out, hdH.out.2.1, hdH.out.2.2, hAH.out, hgH.out⟩
end Go.Proofs.YtalkhiggapbfjaaDoor.Hp
