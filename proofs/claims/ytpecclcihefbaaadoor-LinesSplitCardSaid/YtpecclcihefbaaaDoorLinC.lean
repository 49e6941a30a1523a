/- The walk of LinesCount. -/
import Derived.Test.YtpecclcihefbaaaDoorLinJ
import Derived.IntWalk
import Derived.Deep.QuietTactic
import Derived.BigQuiet
set_option linter.unusedVariables false
set_option linter.unusedSimpArgs false
namespace Go.Proofs.YtpecclcihefbaaaDoor.Lin
open Go Go.RowKit Go.Proofs.YtpecclcihefbaaaDoor.B Go.Proofs.YtpecclcihefbaaaDoorW.PrintWords

theorem glue_facts (a b : List (List UInt8)) (ha : a ≠ []) (hb : b ≠ []) : (glue a b).length + 1 = a.length + b.length ∧ (glue a b).take (a.length - 1) = a.take (a.length - 1) ∧ (glue a b).drop a.length = b.drop 1 ∧
    (glue a b).getD (a.length - 1) [] = a.getD (a.length - 1) [] ++ b.getD 0 [] := by
  have hal : 0 < a.length := List.length_pos_iff.2 ha
  obtain ⟨h, t, rfl⟩ : ∃ h t, b = h :: t := by
    cases b with
    | nil => exact absurd rfl hb
    | cons h t => exact ⟨h, t, rfl⟩
  have e : glue a (h :: t) = a.dropLast ++ (a.getLastD [] ++ h) :: t := rfl
  have hd : a.dropLast.length = a.length - 1 := List.length_dropLast
  have hlast : a.getLastD [] = a.getD (a.length - 1) [] := by
    rw [List.getLastD_eq_getLast?, List.getLast?_eq_getElem?, List.getD_eq_getElem?_getD]
  rw [e]
  refine ⟨by simp; omega, ?_, ?_, ?_⟩
  · rw [List.take_append_of_le_length (by omega), List.take_of_length_le (by omega), List.dropLast_eq_take]
  · rw [List.drop_append, List.drop_of_length_le (by omega), hd, show a.length - (a.length - 1) = 1 from by omega]
    simp
  · rw [List.getD_eq_getElem?_getD, List.getElem?_append_right (by omega), hd, Nat.sub_self]
    rw [hlast]
    rfl

theorem jn_mem {l : List (List UInt8)} {x : List UInt8} (h : x ∈ l) : x.length ≤ (jn l).length := by
  induction l with
  | nil => cases h
  | cons a l ih =>
    cases l with
    | nil => rcases List.mem_cons.1 h with rfl | h
             · exact Nat.le_refl _
             · cases h
    | cons b l =>
      rw [jn_cons a (by simp), List.length_append, List.length_cons]
      rcases List.mem_cons.1 h with rfl | h
      · omega
      · have := ih h; omega
theorem spl_mem {l x : List UInt8} (h : x ∈ spl l) : x.length ≤ l.length := by
  have := jn_mem h; rwa [jn_spl] at this
theorem bs_getD (l : List (List UInt8)) (k : Nat) : (l.map bs).getD k ByteArray.empty = bs (l.getD k []) := by
  simp only [List.getD_eq_getElem?_getD, List.getElem?_map]
  cases l[k]? <;> rfl
theorem sameQ (A0 A1 : Option Addr) (n0 c0 n1 c1 : Nat) (l : List ByteArray) (w : World) (h0 : Kd.C Kd.string w A0 n0 l) (k0 : n0 ≤ c0) (h1 : Kd.C Kd.string w A1 n1 l) (k1 : n1 ≤ c1) (k : Nat) :
    Calls Tryd.prog 12 #[.slice A0 n0 c0, .slice A1 n1 c1] (w.drewN k) fun e w' => e = .returned (.bool true) ∧ ∃ j, w' = w.drewN j := by
  refine (sameRef A0 A1 n0 c0 n1 c1 l l (w.drewN k) (Kd.C_drewN h0 k) k0 (Kd.C_drewN h1 k) k1).mono fun e w' h => ⟨?_, ?_⟩
  · rw [h.1]; simp
  · obtain ⟨j, hj⟩ := h.2.out
    exact ⟨k + j, by rw [hj]; simp [World.drewN, Nat.add_assoc]⟩

/-- A row of texts out of its cells; a cut of one. -/
theorem C_cells {w : World} {b o : Nat} {l : List ByteArray} (hl : l.length ≤ 9223372036854775807) (h : ∀ j, j < l.length → w.cell? ⟨b, o + j, none⟩ = some (.string (l.getD j ByteArray.empty))) :
    Kd.C Kd.string w (some ⟨b, o, none⟩) l.length l := by
  refine ⟨rfl, hl, fun _ => ⟨_, rfl, fun j p hj => ⟨[.string p], rfl, rfl, fun i u hu => ?_⟩⟩⟩
  obtain ⟨hjl, hjp⟩ := List.getElem?_eq_some_iff.1 hj
  cases i with
  | succ i => simp at hu
  | zero =>
    simp only [List.getElem?_cons_zero, Option.some.injEq] at hu
    subst hu
    show w.cell? ((⟨b, o, none⟩ : Addr).add (j * 1 + 0)) = _
    rw [add_plain, Nat.mul_one, Nat.add_zero, h j hjl, List.getD_eq_getElem?_getD, hj]
    rfl
theorem C_cut {w : World} {b o n : Nat} {l : List ByteArray} (h : Kd.C Kd.string w (some ⟨b, o, none⟩) n l) (lo hi : Nat) (h1 : lo ≤ hi) (h2 : hi ≤ n) : Kd.C Kd.string w (some ⟨b, o + lo, none⟩) (hi - lo) ((l.take hi).drop lo) := by
  obtain rfl := h.1
  have e : ((l.take hi).drop lo).length = hi - lo := by rw [List.length_drop, List.length_take]; omega
  have hl := h.2.1
  have := C_cells (w := w) (b := b) (o := o + lo) (l := (l.take hi).drop lo) (by omega) (fun j hj => by
    rw [e] at hj
    obtain ⟨b', o', e', hc⟩ := C_cell h (lo + j) (by omega)
    injection e' with e'
    injection e' with i1 i2
    subst i1 i2
    rw [Nat.add_assoc, hc]
    congr 2
    rw [List.getD_eq_getElem?_getD, List.getD_eq_getElem?_getD, List.getElem?_drop, List.getElem?_take, if_pos (by omega)])
  rwa [e] at this
theorem C_zero (w : World) (A : Option Addr) : Kd.C Kd.string w A 0 [] := ⟨rfl, by simp, fun h => absurd h (by simp)⟩

theorem count_take (l : List UInt8) (k : Nat) (h : k < l.length) : (l.take (k + 1)).count 10 = (l.take k).count 10 + if l.getD k 0 = 10 then 1 else 0 := by
  rw [take_next l k 0 h, List.count_append]
  congr 1
  by_cases e : l.getD k 0 = 10
  · rw [if_pos e, e]; rfl
  · rw [if_neg e, List.count_singleton, if_neg (by simpa using e)]

theorem count_skip (a b : ByteArray) (w : World) (hm : MaxL w) (h : 5000 < a.size ∨ 5000 < b.size) :
    Calls Tryd.prog 5 #[.string a, .string b] w fun e w' => e = .returned (.bool true) ∧ Below w.heap.size w w' := by
  have C0 := Lib.hid (awake01 w hm)
  by_cases h1 : 5000 < a.size
  · go_enter Tryd.func5, Tryd.ntmps5
    go_wp2_with fail
    refine (C0.out).mono ?_
    rintro e w1 ⟨rfl, hb1⟩
    replace hb1 := Lib.hid hb1
    go_wp2_with fail
    go_ret
    exact ⟨rfl, hb1.out⟩
  · have h2 : 5000 < b.size := by omega
    clear h
    go_enter Tryd.func5, Tryd.ntmps5
    go_wp2_with fail
    refine (C0.out).mono ?_
    rintro e w1 ⟨rfl, hb1⟩
    replace hb1 := Lib.hid hb1
    go_wp2_with fail
    go_ret
    exact ⟨rfl, hb1.out⟩

set_option maxRecDepth 100000 in
set_option maxHeartbeats 1000000 in
theorem count_walk (a b : ByteArray) (w : World) (hm : MaxL w) (h1 : a.size ≤ 5000) (h2 : b.size ≤ 5000) :
    Calls Tryd.prog 5 #[.string a, .string b] w fun e w' => e = .returned (.bool true) ∧ Below w.heap.size w w' := by
  have C0 := Lib.hid (awake01 w hm)
  have h1i : ¬ (5000 : Int) < (a.size : Int) := by omega
  have h2i : ¬ (5000 : Int) < (b.size : Int) := by omega
  go_enter Tryd.func5, Tryd.ntmps5
  go_wp2_with fail
  refine (C0.out).mono ?_
  rintro e w1 ⟨rfl, hb1⟩
  replace hb1 := Lib.hid hb1
  go_wp2_with fail
  go_loopg [5, 6] a.size (fun g n i W => ∃ k : Nat, g = a.size - k ∧ k ≤ a.size ∧ i = .int .i64 k ∧ n = .int .i64 ((a.data.toList.take k).count 10) ∧ w1 = W)
  case atStart => exact ⟨0, rfl, by omega, rfl, rfl, rfl⟩
  case round =>
    obtain ⟨k, hg, hk, rfl, rfl, rfl⟩ := hrel
    subst hg
    by_cases hkl : k < a.size
    · have hki : (k : Int) < (a.size : Int) := by omega
      have hcn := count_take a.data.toList k (by rw [size_list]; exact hkl)
      have hbyte : a.data.toList.getD k 0 = a[k] := by
        rw [List.getD_eq_getElem?_getD, List.getElem?_eq_getElem (by rw [size_list]; omega)]; rfl
      rw [hbyte] at hcn
      have hle : (a.data.toList.take k).count 10 ≤ 5000 := by
        have := List.count_le_length (a := (10 : UInt8)) (l := a.data.toList.take k)
        rw [List.length_take] at this
        omega
      replace hcn := Lib.hid hcn
      clear hbyte
      generalize (a.data.toList.take k).count 10 = m at *
      by_cases h10 : a[k] = 10
      · have e10 : ((a[k].toNat : Int) == 10) = true := beq_iff_eq.2 ((byte_10 _).2 h10)
        have hc2 := Lib.hid (show (a.data.toList.take (k + 1)).count 10 = m + 1 from by rw [hcn.out, if_pos h10])
        clear hcn h10
        go_wp2_with fail
        go_roundg (a.size - (k + 1))
        case measure => omega
        case rel => exact ⟨k + 1, rfl, by omega, by go_num, by rw [hc2.out]; go_num, rfl⟩
      · have e10 : ((a[k].toNat : Int) == 10) = false := beq_eq_false_iff_ne.2 (fun e => h10 ((byte_10 _).1 e))
        have hc2 := Lib.hid (show (a.data.toList.take (k + 1)).count 10 = m from by rw [hcn.out, if_neg h10]; rfl)
        clear hcn h10
        go_wp2_with fail
        go_roundg (a.size - (k + 1))
        case measure => omega
        case rel => exact ⟨k + 1, rfl, by omega, by go_num, by rw [hc2.out], rfl⟩
    · have hkN : k = a.size := by omega
      subst hkN
      have hki : ¬ (a.size : Int) < (a.size : Int) := by omega
      rw [List.take_of_length_le (by rw [size_list]; omega)]
      have CA := Lib.hid (fun W hW => Split_any a W hW (by omega))
      have CB := Lib.hid (fun W hW => Split_any b W hW (by omega))
      have CC := Lib.hid (fun W hW => Split_any (a ++ b) W hW (by rw [ByteArray.size_append]; omega))
      have hd : (a ++ b).data.toList = a.data.toList ++ b.data.toList := by rw [ByteArray.data_append, Array.toList_append]
      have hg := glue_facts (spl a.data.toList) (spl b.data.toList) (spl_ne _) (spl_ne _)
      rw [← spl_append, ← hd] at hg
      have hn := spl_length a.data.toList
      have hca : a.data.toList.count 10 ≤ 5000 := by
        have := List.count_le_length (a := (10 : UInt8)) (l := a.data.toList); rw [size_list] at this; omega
      have hbl := spl_length b.data.toList
      have hcb : b.data.toList.count 10 ≤ 5000 := by
        have := List.count_le_length (a := (10 : UInt8)) (l := b.data.toList); rw [size_list] at this; omega
      have hxm : ∀ k, ((spl a.data.toList).getD k []).length ≤ 5000 := fun k => by
        rw [List.getD_eq_getElem?_getD]
        cases h : (spl a.data.toList)[k]? with
        | none => simp
        | some x => have := spl_mem (List.mem_of_getElem? h); rw [size_list] at this; simp only [Option.getD_some]; omega
      have hym : ∀ k, ((spl b.data.toList).getD k []).length ≤ 5000 := fun k => by
        rw [List.getD_eq_getElem?_getD]
        cases h : (spl b.data.toList)[k]? with
        | none => simp
        | some x => have := spl_mem (List.mem_of_getElem? h); rw [size_list] at this; simp only [Option.getD_some]; omega
      replace hxm := Lib.hid hxm
      replace hym := Lib.hid hym
      unfold SplitPost at CA CB CC
      generalize spl a.data.toList = X at *
      generalize spl b.data.toList = Y at *
      generalize spl (a ++ b).data.toList = Z at *
      generalize a.data.toList.count 10 = m at *
      generalize b.data.toList.count 10 = m' at *
      obtain ⟨g1, g2, g3, g4⟩ := hg
      have g2 := Lib.hid (congrArg (List.map bs) g2)
      have g3 := Lib.hid (congrArg (List.map bs) g3)
      replace g4 := Lib.hid g4
      obtain ⟨nx, hnx⟩ : ∃ nx, nx = m + 1 := ⟨_, rfl⟩
      obtain ⟨ny, hny⟩ : ∃ ny, ny = m' + 1 := ⟨_, rfl⟩
      obtain ⟨nz, hnz⟩ : ∃ nz, nz = m + 1 + m' := ⟨_, rfl⟩
      have hZl : Z.length = nz := by omega
      rw [← hnx] at hn
      rw [← hny] at hbl
      rw [hn] at CA
      rw [hbl] at CB
      rw [hZl] at CC
      have f1 : ((nx : Int) != (m : Int) + 1) = false := by rw [bne_eq_false_iff_eq]; omega
      have f2 : ((ny : Int) == 0) = false := by rw [beq_eq_false_iff_ne]; omega
      have f3 : ((nz : Int) != (nx : Int) + (ny : Int) - 1) = false := by rw [bne_eq_false_iff_eq]; omega
      have b1 : (nx : Int) ≤ 5001 := by omega
      have b2 : (ny : Int) ≤ 5001 := by omega
      have b3 : (nz : Int) ≤ 10001 := by omega
      have hXl := Lib.hid hn
      have hYl := Lib.hid hbl
      replace hZl := Lib.hid hZl
      have hnxH := Lib.hid hnx
      have hnyH := Lib.hid hny
      have hnzH := Lib.hid hnz
      clear hn hbl g1 hd hnx hny hnz
      have hss : (a.size : Int) + (b.size : Int) ≤ 10000 := by omega
      go_wp2_with fail
      refine (CA.out _ (hm.below hb1.out)).mono ?_
      rintro e w2 ⟨bA, n, c, rfl, en, ec, hCA, hb2⟩
      obtain rfl : nx = n := en.symm
      obtain rfl : nx = c := ec
      clear en
      replace hb1 := Lib.hid (Below.tr hb1.out hb2)
      replace hCA := Lib.hid hCA
      clear hb2
      go_wp2_with fail
      refine (CB.out _ (hm.below hb1.out)).mono ?_
      rintro e w3 ⟨bB, n, c, rfl, en, ec, hCB, hb2⟩
      obtain rfl : ny = n := en.symm
      obtain rfl : ny = c := ec
      clear en
      replace hb1 := Lib.hid (Below.tr hb1.out hb2)
      replace hCA := Lib.hid (Kd.C_below hCA.out hb2)
      replace hCB := Lib.hid hCB
      clear hb2
      go_wp2_with fail
      refine (CC.out _ (hm.below hb1.out)).mono ?_
      rintro e w4 ⟨bC, n, c, rfl, en, ec, hCC, hb2⟩
      obtain rfl : nz = n := en.symm
      obtain rfl : nz = c := ec
      clear en
      replace hb1 := Lib.hid (Below.tr hb1.out hb2)
      replace hCA := Lib.hid (Kd.C_below hCA.out hb2)
      replace hCB := Lib.hid (Kd.C_below hCB.out hb2)
      replace hCC := Lib.hid hCC
      clear hb2 CA CB CC
      go_wp2_with fail
      have e1 := hnxH.out
      have e2 := hnyH.out
      have e3 := hnzH.out
      have b0 : (0 : Int) ≤ (m : Int) := by omega
      have hwx : IntKind.i64.wrap ((nx : Int) - 1) = (m : Int) := by rw [show (nx : Int) - 1 = (m : Int) from by omega]; exact IntWalk.i64_in _ (by omega)
      have lt1 : (m : Int) < (nz : Int) := by omega
      have lt2 : (m : Int) < (nx : Int) := by omega
      have lt3 : (0 : Int) < (ny : Int) := by omega
      have c1 := (C_cell hCC.out m (by omega))
      have c2 := (C_cell hCA.out m (by omega))
      have c3 := (C_cell hCB.out 0 (by omega))
      obtain ⟨_, _, e, c1⟩ := c1; injection e with e; injection e with i1 i2; subst i1 i2
      obtain ⟨_, _, e, c2⟩ := c2; injection e with e; injection e with i1 i2; subst i1 i2
      obtain ⟨_, _, e, c3⟩ := c3; injection e with e; injection e with i1 i2; subst i1 i2
      rw [Nat.zero_add, bs_getD] at c1 c2 c3
      have hs1 := hxm.out m
      have hs2 := hym.out 0
      have g4' : Z.getD m [] = X.getD m [] ++ Y.getD 0 [] := by have := g4.out; rwa [hXl.out, show nx - 1 = m from by omega] at this
      rw [g4', ← bs_append] at c1
      rw [← bs_size] at hs1 hs2
      generalize bs (X.getD m []) = sx at *
      generalize bs (Y.getD 0 []) = sy at *
      have hcat : (9223372036854775807 < sx.size + sy.size) = False := eq_false (by omega)
      clear g4' hs1 hs2
      have hz1 : Kd.C Kd.string w4 (some ⟨bC, 0, none⟩) m ((X.take m).map bs) := by
        have := C_cut hCC.out 0 m (by omega) (by omega)
        have e := g2.out
        rw [hXl.out, show nx - 1 = m from by omega] at e
        rwa [Nat.sub_zero, List.drop_zero, ← List.map_take, e] at this
      have hx1 : Kd.C Kd.string w4 (some ⟨bA, 0, none⟩) m ((X.take m).map bs) := by
        have := C_cut hCA.out 0 m (by omega) (by omega)
        rwa [Nat.sub_zero, List.drop_zero, ← List.map_take] at this
      have hz2 : Kd.C Kd.string w4 (some ⟨bC, nx, none⟩) (nz - nx) ((Y.drop 1).map bs) := by
        have := C_cut hCC.out nx nz (by omega) (by omega)
        have e := g3.out
        rw [hXl.out] at e
        rwa [Nat.zero_add, List.take_of_length_le (by rw [List.length_map, hZl.out]; exact Nat.le_refl _), ← List.map_drop, e] at this
      have hy2 : Kd.C Kd.string w4 (some ⟨bB, 1, none⟩) (nz - nx) ((Y.drop 1).map bs) := by
        have := C_cut hCB.out 1 ny (by omega) (by omega)
        rwa [Nat.zero_add, List.take_of_length_le (by rw [List.length_map, hYl.out]; exact Nat.le_refl _), ← List.map_drop, show ny - 1 = nz - nx from by omega] at this
      have QS1 := Lib.hid (fun k => sameQ (some ⟨bC, 0, none⟩) (some ⟨bA, 0, none⟩) m nz m nx _ w4 hz1 (by omega) hx1 (by omega) k)
      have le1 : (nx : Int) ≤ (nz : Int) := by omega
      have le2 : (1 : Int) ≤ (ny : Int) := by omega
      have le3 : (m : Int) ≤ (nz : Int) := by omega
      have le4 : (m : Int) ≤ (nx : Int) := by omega
      have n0 : (0 : Int) ≤ (nx : Int) := by omega
      clear hz1 hx1
      by_cases h0 : m' = 0
      · obtain rfl : nz = nx := by omega
        obtain rfl : ny = 1 := by omega
        have QS2 := Lib.hid (fun k => sameQ (some ⟨bC, 0, none⟩) (some ⟨bB, 0, none⟩) 0 0 0 0 [] w4 (C_zero _ _) (by omega) (C_zero _ _) (by omega) k)
        clear hz2 hy2 e1 e2 e3 lt3
        go_quiet ((go_at_call 12; first | (with_reducible exact QS1.out _) | (with_reducible exact QS2.out _)))
        go_wp2_with fail
        go_ret
        exact ⟨rfl, pw_below_drewN hb1.out _⟩
      · have QS2 := Lib.hid (fun k => sameQ (some ⟨bC, nx, none⟩) (some ⟨bB, 1, none⟩) (nz - nx) (nz - nx) (ny - 1) (ny - 1) _ w4 hz2 (by omega) (by rw [show ny - 1 = nz - nx from by omega]; exact hy2) (by omega) k)
        have ez : nz - nx = ny - 1 := by omega
        have lt5 : (nx : Int) < (nz : Int) := by omega
        have lt6 : (1 : Int) < (ny : Int) := by omega
        have ezH := Lib.hid ez
        clear hz2 hy2 e1 e2 e3 ez
        go_quiet ((go_at_call 12; first | (with_reducible exact QS1.out _) | (with_reducible exact QS2.out _)))
        go_wp2_with fail
        go_ret
        exact ⟨rfl, pw_below_drewN hb1.out _⟩

theorem count_any (a b : ByteArray) (w : World) (hm : MaxL w) :
    Calls Tryd.prog 5 #[.string a, .string b] w fun e w' => e = .returned (.bool true) ∧ Below w.heap.size w w' := by
  by_cases h : 5000 < a.size ∨ 5000 < b.size
  · exact count_skip a b w hm h
  · exact count_walk a b w hm (by omega) (by omega)

end Go.Proofs.YtpecclcihefbaaaDoor.Lin
