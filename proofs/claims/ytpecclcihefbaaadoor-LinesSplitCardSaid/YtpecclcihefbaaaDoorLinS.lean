/- The walk of LinesSplit: lines.Check, the document's Split and Check. -/
import Derived.Test.YtpecclcihefbaaaDoorLinC
import Derived.Test.YtpecclcihefbaaaDoorErrB
set_option linter.unusedVariables false
set_option linter.unusedSimpArgs false
namespace Go.Proofs.YtpecclcihefbaaaDoor.Lin
open Go Go.RowKit Go.Proofs.YtpecclcihefbaaaDoor.B Go.Proofs.YtpecclcihefbaaaDoorW.PrintWords

/-- A text beyond the limits. -/
def bad (l : List UInt8) : Bool := decide (8192 < l.length) || decide (300 < (spl l).length) || (spl l).any (fun x => decide (500 < x.length))
def bigV (b : Bool) : Value := if b then .iface 53 (.int .i64 2) else .nilIface
theorem big_yes : bigV true = .iface 53 (.int .i64 2) := rfl
theorem big_no : bigV false = .nilIface := rfl

theorem bad_size {l : List UInt8} (h : 8192 < l.length) : bad l = true := by unfold bad; rw [decide_eq_true h]; rfl
theorem bad_lines {l : List UInt8} (h : 300 < (spl l).length) : bad l = true := by unfold bad; rw [decide_eq_true h]; simp
theorem bad_line {l x : List UInt8} (h : x ∈ spl l) (hx : 500 < x.length) : bad l = true := by
  unfold bad
  have : (spl l).any (fun x => decide (500 < x.length)) = true := List.any_eq_true.2 ⟨x, h, by simpa using hx⟩
  rw [this]; simp
theorem not_bad {l : List UInt8} (h1 : ¬ 8192 < l.length) (h2 : ¬ 300 < (spl l).length) (h3 : ∀ x ∈ spl l, ¬ 500 < x.length) : bad l = false := by
  unfold bad
  rw [decide_eq_false h1, decide_eq_false h2]
  simp only [Bool.false_or]
  rw [List.any_eq_false]
  intro x hx
  simpa using h3 x hx

/-! The document's Check. -/
theorem check_l0 (x : List ByteArray) (hs : x.length ≤ 4000000000000000000) (n : Nat) : ∀ (k i : Nat), i + n = x.length → n < k →
    PCheck.tambourref01_Check.l0 k x i = some (if (x.drop i).any (fun s => decide (500 < s.size)) then 2 else 0) := by
  induction n with
  | zero =>
    intro k i hi hk
    obtain ⟨k, rfl⟩ : ∃ m, k = m + 1 := ⟨k - 1, by omega⟩
    simp only [PCheck.tambourref01_Check.l0]
    rw [if_neg (by omega), List.drop_of_length_le (by omega)]
    rfl
  | succ n ih =>
    intro k i hi hk
    obtain ⟨k, rfl⟩ : ∃ m, k = m + 1 := ⟨k - 1, by omega⟩
    have h1 : i < x.length := by omega
    have d1 : x.drop i = x.getD i ByteArray.empty :: x.drop (i + 1) := by
      rw [List.drop_eq_getElem_cons h1, List.getD_eq_getElem?_getD, List.getElem?_eq_getElem h1]; rfl
    simp only [PCheck.tambourref01_Check.l0]
    rw [if_pos (by omega), if_pos (by omega), rdOf_at, wrap_at (by omega) (by omega), d1, List.any_cons]
    by_cases h5 : 500 < (x.getD i ByteArray.empty).size
    · rw [if_pos (by omega), decide_eq_true h5]; rfl
    · have e : ((i : Int) + 1) = ((i + 1 : Nat) : Int) := by omega
      rw [if_neg (by omega), decide_eq_false h5, e, ih k (i + 1) (by omega) (by omega), Bool.false_or]
theorem any_bs (l : List (List UInt8)) : (l.map bs).any (fun s => decide (500 < s.size)) = l.any (fun x => decide (500 < x.length)) := by
  induction l with
  | nil => rfl
  | cons a l ih => rw [List.map_cons, List.any_cons, List.any_cons, ih, bs_size]
theorem check_f (s : ByteArray) (hs : s.size ≤ 100000) : ∃ k, PCheck.tambourref01_Check.f k s = some (if bad s.data.toList then 2 else 0) := by
  have hl : (spl s.data.toList).length ≤ s.size + 1 := by
    rw [spl_length]
    have := List.count_le_length (a := (10 : UInt8)) (l := s.data.toList)
    rw [size_list] at this
    omega
  refine ⟨s.size + 2, ?_⟩
  unfold PCheck.tambourref01_Check.f
  by_cases h1 : 8192 < s.size
  · rw [if_pos (by omega), bad_size (by rw [size_list]; exact h1)]; rfl
  · rw [if_neg (by omega), split_f s (by omega)]
    simp only [Option.bind_some, List.length_map]
    by_cases h2 : 300 < (spl s.data.toList).length
    · rw [if_pos (by omega), bad_lines h2]; rfl
    · have e := check_l0 ((spl s.data.toList).map bs) (by rw [List.length_map]; omega) (spl s.data.toList).length (s.size + 2) 0 (by simp) (by omega)
      rw [if_neg (by omega)]
      rw [show ((0 : Nat) : Int) = 0 from rfl] at e
      rw [e, List.drop_zero, any_bs]
      unfold bad
      rw [decide_eq_false (by rw [size_list]; exact h1), decide_eq_false h2, Bool.false_or, Bool.false_or]
def badN (b : Bool) : Int := if b then 2 else 0
theorem checkRef (s : ByteArray) (w : World) (hs : s.size ≤ 100000) : Calls Tryd.prog 25 #[.string s] w fun e w' => e = .returned (.int .i64 (badN (bad s.data.toList))) ∧ Below w.heap.size w w' := by
  obtain ⟨k, hk⟩ := check_f s hs
  exact PCheck.tambourref01_Check.calls k s _ w hk
def RSplitPost (l : List ByteArray) (w : World) (e : Ending) (w' : World) : Prop :=
  ∃ A c, e = .returned (.slice A l.length c) ∧ l.length ≤ c ∧ Kd.C Kd.string w' A l.length l ∧ Below w.heap.size w w'
theorem splitRef (s : ByteArray) (w : World) (hs : s.size ≤ 100000) : Calls Tryd.prog 22 #[.string s] w (RSplitPost ((spl s.data.toList).map bs) w) := by
  refine (PCheck.tambourref01_Split.calls (s.size + 2) s _ w (split_f s (by omega))).mono ?_
  rintro e w' ⟨v, rfl, hr, hb⟩
  obtain ⟨A, c, rfl, hc, hC⟩ := Kd.R_reads hr
  exact ⟨A, c, rfl, hc, hC, hb⟩

set_option maxRecDepth 100000 in
set_option maxHeartbeats 1000000 in
theorem Check_any (s : ByteArray) (w : World) (hm : MaxL w) (hs : s.size ≤ 100000) :
    Calls Tryd.prog 24 #[.string s] w fun e w' => e = .returned (bigV (bad s.data.toList)) ∧ Below w.heap.size w w' := by
  have hsi : (s.size : Int) ≤ 100000 := by omega
  by_cases h1 : 8192 < s.size
  · have h1i : (8192 : Int) < (s.size : Int) := by omega
    rw [bad_size (by rw [size_list]; exact h1), big_yes]
    go_enter Tryd.func24, Tryd.ntmps24
    go_wp2_with fail
    go_ret
    exact ⟨rfl, Below.refl _ _⟩
  · have h1i : ¬ (8192 : Int) < (s.size : Int) := by omega
    have CC := Tryd.strings_Count_one s 10 w
    have hlen := spl_length s.data.toList
    have hcl := List.count_le_length (a := (10 : UInt8)) (l := s.data.toList)
    rw [size_list] at hcl
    unfold Lib.countByte at CC
    by_cases h2 : 300 < (spl s.data.toList).length
    · have hbad := Lib.hid (bad_lines h2)
      have h2i : (300 : Int) ≤ (List.count (10 : UInt8) s.data.toList : Nat) := by omega
      generalize List.count (10 : UInt8) s.data.toList = m at *
      have CH := Lib.hid CC
      clear CC h2 hlen hcl
      go_enter Tryd.func24, Tryd.ntmps24
      go_wp2_with fail
      refine (CH.out).mono ?_
      rintro e w1 ⟨rfl, rfl⟩
      go_wp2_with fail
      go_ret
      exact ⟨by rw [hbad.out]; rfl, Below.refl _ _⟩
    · have h2i : ¬ (300 : Int) ≤ (List.count (10 : UInt8) s.data.toList : Nat) := by omega
      have CS := Lib.hid (Split_any s w hm (by omega))
      have hnb := Lib.hid (fun h3 => not_bad (l := s.data.toList) (by rw [size_list]; exact h1) h2 h3)
      have hyb := Lib.hid (fun x h hx => bad_line (l := s.data.toList) (x := x) h hx)
      have hnl : (spl s.data.toList).length ≤ 300 := by omega
      unfold SplitPost at CS
      generalize spl s.data.toList = L at *
      generalize List.count (10 : UInt8) s.data.toList = m at *
      obtain ⟨n, hn⟩ : ∃ n, n = L.length := ⟨_, rfl⟩
      rw [← hn] at CS hnl
      have CH := Lib.hid CC
      have hnH := Lib.hid hn
      have hni : (n : Int) ≤ 300 := by omega
      clear CC h2 hlen hcl hn
      go_enter Tryd.func24, Tryd.ntmps24
      go_wp2_with fail
      refine (CH.out).mono ?_
      rintro e w1 ⟨rfl, rfl⟩
      go_wp2_with fail
      refine (CS.out).mono ?_
      rintro e w2 ⟨b, n', c, rfl, en, ec, hC, hb⟩
      obtain rfl : n = n' := en.symm
      obtain rfl : n = c := ec
      clear en CS CH
      replace hC := Lib.hid hC
      replace hb := Lib.hid hb
      go_wp2_with fail
      go_loopg [17] n (fun g i W => ∃ k : Nat, g = n - k ∧ k ≤ n ∧ i = .int .i64 k ∧ (∀ j, j < k → (L.getD j []).length ≤ 500) ∧ w2 = W)
      case atStart => exact ⟨0, rfl, by omega, rfl, fun j hj => absurd hj (by omega), rfl⟩
      case round =>
        obtain ⟨k, hg, hk, rfl, hall, rfl⟩ := hrel
        subst hg
        replace hall := Lib.hid hall
        by_cases hkl : k < n
        · have hki : (k : Int) < (n : Int) := by omega
          obtain ⟨_, _, e, hcell⟩ := C_cell hC.out k hkl
          injection e with e; injection e with i1 i2; subst i1 i2
          rw [Nat.zero_add, bs_getD] at hcell
          have hx := Lib.hid (getD_mem L k [] (by rw [← hnH.out]; exact hkl))
          obtain ⟨x, hxe⟩ : ∃ x, x = L.getD k [] := ⟨_, rfl⟩
          rw [← hxe] at hcell hx
          replace hxe := Lib.hid hxe
          by_cases h5 : 500 < x.length
          · have h5i : (500 : Int) < ((bs x).size : Int) := by rw [bs_size]; omega
            have hbad := Lib.hid (hyb.out x hx.out h5)
            generalize bs x = y at *
            clear h5
            go_wp2_with fail
            go_ret
            exact ⟨by rw [hbad.out]; rfl, hb.out⟩
          · have h5i : ¬ (500 : Int) < ((bs x).size : Int) := by rw [bs_size]; omega
            have h5H := Lib.hid h5
            generalize bs x = y at *
            clear h5
            go_wp2_with fail
            go_roundg (n - (k + 1))
            case measure => omega
            case rel =>
              refine ⟨k + 1, rfl, by omega, by go_num, fun j hj => ?_, rfl⟩
              by_cases hjk : j < k
              · exact hall.out j hjk
              · obtain rfl : j = k := by omega
                rw [← hxe.out]
                have := h5H.out
                omega
        · have hkn : k = n := by omega
          subst hkn
          have hki : ¬ (k : Int) < (k : Int) := by omega
          have hgood := Lib.hid (hnb.out (fun x hx => by
            obtain ⟨i, hi, rfl⟩ := List.mem_iff_getElem.1 hx
            have := hall.out i (by rw [hnH.out]; exact hi)
            rw [List.getD_eq_getElem?_getD, List.getElem?_eq_getElem hi] at this
            simp only [Option.getD_some] at this
            omega))
          go_wp2_with fail
          go_ret
          exact ⟨by rw [hgood.out]; rfl, hb.out⟩

theorem split_skip (s : ByteArray) (w : World) (hm : MaxL w) (h : 40000 < s.size) :
    Calls Tryd.prog 7 #[.string s] w fun e w' => e = .returned (.bool true) ∧ Below w.heap.size w w' := by
  have C0 := Lib.hid (awake01 w hm)
  have hi : (40000 : Int) < (s.size : Int) := by omega
  go_enter Tryd.func7, Tryd.ntmps7
  go_wp2_with fail
  refine (C0.out).mono ?_
  rintro e w1 ⟨rfl, hb1⟩
  replace hb1 := Lib.hid hb1
  go_wp2_with fail
  go_ret
  exact ⟨rfl, hb1.out⟩

set_option maxRecDepth 100000 in
set_option maxHeartbeats 1000000 in
theorem split_walk (s : ByteArray) (w : World) (hm : MaxL w) (he : Err.ErrT w) (hs : s.size ≤ 40000) :
    Calls Tryd.prog 7 #[.string s] w fun e w' => e = .returned (.bool true) ∧ Below w.heap.size w w' := by
  have C0 := Lib.hid (awake01 w hm)
  have hi : ¬ (40000 : Int) < (s.size : Int) := by omega
  have CS := Lib.hid (fun W (hW : MaxL W) => Split_any s W hW (by omega))
  have CR := Lib.hid (fun W => splitRef s W (by omega))
  have CC := Lib.hid (fun W (hW : MaxL W) => Check_any s W hW (by omega))
  have CK := Lib.hid (fun W => checkRef s W (by omega))
  have hjs : jn (ls ((spl s.data.toList).map bs)) = s.data.toList := by rw [ls_bs, jn_spl]
  have hjl : (jn (ls ((spl s.data.toList).map bs))).length ≤ 140737488355328 := by rw [hjs, size_list]; omega
  have hln : (spl s.data.toList).length ≤ 40001 := by
    rw [spl_length]
    have := List.count_le_length (a := (10 : UInt8)) (l := s.data.toList)
    rw [size_list] at this
    omega
  have CJ := Lib.hid (fun A n c W (hC : Kd.C Kd.string W A n ((spl s.data.toList).map bs)) (hc : n ≤ c) (hn : n ≤ 140737488355328) => Join_any A n c _ W hC hc hjl hn)
  rw [hjs, bs_of] at CJ
  unfold SplitPost at CS
  unfold RSplitPost at CR
  rw [List.length_map] at CR
  clear hjs hjl
  generalize hL : (spl s.data.toList).map bs = L at *
  have hll : L.length = (spl s.data.toList).length := by rw [← hL, List.length_map]
  rw [← hll] at CS CR hln
  clear hL hll
  obtain ⟨n, hn⟩ : ∃ n, n = L.length := ⟨_, rfl⟩
  rw [← hn] at CS CR hln
  clear hn
  generalize bad s.data.toList = q at *
  go_enter Tryd.func7, Tryd.ntmps7
  go_wp2_with fail
  refine (C0.out).mono ?_
  rintro e w1 ⟨rfl, hb1⟩
  replace hb1 := Lib.hid hb1
  go_wp2_with fail
  refine (CS.out _ (hm.below hb1.out)).mono ?_
  rintro e w2 ⟨b, n', c, rfl, en, ec, hC, hb2⟩
  obtain rfl : n = n' := en.symm
  obtain rfl : n = c := ec
  clear en
  replace hb1 := Lib.hid (Below.tr hb1.out hb2)
  replace hC := Lib.hid hC
  clear hb2
  go_wp2_with fail
  refine (CR.out _).mono ?_
  rintro e w3 ⟨A, c, rfl, hc, hC2, hb2⟩
  replace hb1 := Lib.hid (Below.tr hb1.out hb2)
  replace hC := Lib.hid (Kd.C_below hC.out hb2)
  replace hC2 := Lib.hid hC2
  replace hc := Lib.hid hc
  clear hb2
  go_wp2_with fail
  refine (sameRef _ _ n n n c L L _ hC.out (Nat.le_refl _) hC2.out hc.out).mono ?_
  rintro e w4 ⟨rfl, hd⟩
  simp only [decide_true]
  replace hb1 := Lib.hid (Below.tr hb1.out (below_drawn hd))
  replace hC := Lib.hid (Kd.C_below hC.out (below_drawn hd))
  clear hd hC2
  go_wp2_with fail
  refine (CJ.out _ _ _ _ hC.out (Nat.le_refl _) (by omega)).mono ?_
  rintro e w5 ⟨rfl, hb2⟩
  replace hb1 := Lib.hid (Below.tr hb1.out hb2)
  clear hb2
  go_wp2_with fail
  refine (CC.out _ (hm.below hb1.out)).mono ?_
  rintro e w6 ⟨rfl, hb2⟩
  replace hb1 := Lib.hid (Below.tr hb1.out hb2)
  clear hb2
  have CE : ∀ W, Err.ErrT W → Calls Tryd.prog 23 #[bigV q] W fun ev w' => ev = .returned (.int .i64 (badN q)) ∧ Below W.heap.size W w' := by
    intro W hW
    cases q
    · refine (Err.Code_nil W).mono ?_
      rintro e w' ⟨rfl, rfl⟩
      exact ⟨rfl, Below.refl _ _⟩
    · exact Err.Code_errno 2 W hW
  replace CE := Lib.hid CE
  go_wp2_with fail
  refine (CE.out _ (he.below hb1.out)).mono ?_
  rintro e w7 ⟨rfl, hb2⟩
  replace hb1 := Lib.hid (Below.tr hb1.out hb2)
  clear hb2
  go_wp2_with fail
  refine (CK.out _).mono ?_
  rintro e w8 ⟨rfl, hb2⟩
  replace hb1 := Lib.hid (Below.tr hb1.out hb2)
  clear hb2
  go_wp2_with fail
  go_ret
  exact ⟨rfl, hb1.out⟩

theorem split_any (s : ByteArray) (w : World) (hm : MaxL w) (he : Err.ErrT w) :
    Calls Tryd.prog 7 #[.string s] w fun e w' => e = .returned (.bool true) ∧ Below w.heap.size w w' := by
  by_cases h : 40000 < s.size
  · exact split_skip s w hm h
  · exact split_walk s w hm he (by omega)

end Go.Proofs.YtpecclcihefbaaaDoor.Lin
