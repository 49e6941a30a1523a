/- The walks of the statements on lines: awake, LinesMarkers. -/
import Derived.Test.YtpecclcihefbaaaDoorLinW
import Derived.Deep.QuietTactic
import Derived.BigQuiet
set_option linter.unusedVariables false
set_option linter.unusedSimpArgs false
namespace Go.Proofs.YtpecclcihefbaaaDoor.Lin
open Go Go.RowKit Go.Proofs.YtpecclcihefbaaaDoor.B Go.Proofs.YtpecclcihefbaaaDoorW.PrintWords

theorem awake01 (w : World) (hm : MaxL w) : Calls Tryd.prog 9 #[] w fun e w' => e = .returned (.bool true) ∧ Below w.heap.size w w' := by
  have C := Lib.hid (Split_any ⟨#[97, 10]⟩ w hm (by decide))
  have J := Lib.hid (fun A c w' (h : Kd.C Kd.string w' A 2 [bs [97], bs []]) (hc : 2 ≤ c) => Join_any A 2 c [bs [97], bs []] w' h hc (by decide) (by decide))
  have M := Lib.hid (fun w' => Marker_any ⟨#[62, 62, 62, 62, 62, 62, 62, 32, 120]⟩ w')
  have e1 : spl (⟨#[97, 10]⟩ : ByteArray).data.toList = [[97], []] := by decide
  have e2 : bs (jn (ls [bs [97], bs []])) = ⟨#[97, 10]⟩ := by decide
  have e3 : mrk (⟨#[62, 62, 62, 62, 62, 62, 62, 32, 120]⟩ : ByteArray).data.toList = true := by decide
  unfold SplitPost at C
  rw [e1] at C
  rw [e2] at J
  rw [e3] at M
  clear e1 e2 e3
  go_enter Tryd.func9, Tryd.ntmps9
  go_wp2_with fail
  refine (C.out).mono ?_
  rintro e w1 ⟨b, n, c, rfl, rfl, hc', hC, hb⟩
  have hc := Nat.le_of_eq hc'
  clear hc'
  have h0 : w1.cell? ⟨b, 0, none⟩ = some (.string (bs [97])) := by
    obtain ⟨b', o, e, h⟩ := C_cell hC 0 (by decide)
    injection e with e
    injection e with e1 e2
    subst e1 e2
    exact h
  have hCH := Lib.hid hC
  have hbH := Lib.hid hb
  have h0' : w1.cell? ⟨b, 0, none⟩ = some (.string ⟨#[97]⟩) := h0
  clear h0 hC hb
  have hc2 : 2 ≤ c := hc
  clear hc
  go_wp2_with fail
  refine (J.out _ _ _ hCH.out hc2).mono ?_
  rintro e w2 ⟨rfl, hb2⟩
  replace hbH := Lib.hid (Below.tr hbH.out hb2)
  clear hb2 h0'
  go_wp2_with fail
  refine (M.out _).mono ?_
  rintro e w3 ⟨rfl, rfl⟩
  go_wp2_with fail
  go_ret
  exact ⟨rfl, hbH.out⟩

/-! LinesMarkers -/
theorem mrk_long {l : List UInt8} (h : mrk l = true) : 7 ≤ l.length := by
  unfold mrk at h
  simp only [Bool.or_eq_true] at h
  rcases h with (h | h) | h <;> · have := (List.isPrefixOf_iff_prefix.1 h).length_le; simpa using this
theorem mrk_more {l : List UInt8} (h : mrk l = true) (m : List UInt8) : mrk (l ++ m) = true := by
  have hp : ∀ z : List UInt8, z.isPrefixOf l = true → z.isPrefixOf (l ++ m) = true := fun z hz => List.isPrefixOf_iff_prefix.2 ((List.isPrefixOf_iff_prefix.1 hz).trans (List.prefix_append _ _))
  unfold mrk at h ⊢
  simp only [Bool.or_eq_true] at h ⊢
  rcases h with (h | h) | h
  · exact .inl (.inl (hp _ h))
  · exact .inl (.inr (hp _ h))
  · exact .inr (hp _ h)
theorem markerRef (s : ByteArray) (w : World) : Calls Tryd.prog 15 #[.string s] w fun e w' => e = .returned (.bool (mrk s.data.toList)) ∧ Drawn0 w w' :=
  PMarker.tambourref01_Marker.calls 9 s _ w (marker_f s)

theorem markers_any (s m : ByteArray) (w : World) (hm : MaxL w) (hs : s.size ≤ 140737488351232) (hs2 : m.size ≤ 140737488351232) :
    Calls Tryd.prog 4 #[.string s, .string m] w fun e w' => e = .returned (.bool true) ∧ Below w.heap.size w w' := by
  have C := Lib.hid (awake01 w hm)
  have M := Lib.hid (fun w' => Marker_any s w')
  have R := Lib.hid (fun w' => markerRef s w')
  have M2 := Lib.hid (fun w' => Marker_any (s ++ m) w')
  have q1 : (s.size : Int) ≤ 140737488351232 := by omega
  have q2 : (m.size : Int) ≤ 140737488351232 := by omega
  by_cases h5 : 5000 < s.size + m.size
  · have h5i : (5000 : Int) < (s.size : Int) + (m.size : Int) := by omega
    go_enter Tryd.func4, Tryd.ntmps4
    go_wp2_with fail
    refine (C.out).mono ?_
    rintro e w1 ⟨rfl, hb⟩
    replace hb := Lib.hid hb
    go_wp2_with fail
    go_ret
    exact ⟨rfl, hb.out⟩
  · have h5i : ¬ (5000 : Int) < (s.size : Int) + (m.size : Int) := by omega
    have hd : (s ++ m).data.toList = s.data.toList ++ m.data.toList := by rw [ByteArray.data_append, Array.toList_append]
    rw [hd] at M2
    cases hk : mrk s.data.toList with
    | false =>
      rw [hk] at M R
      clear hk hd M2
      go_enter Tryd.func4, Tryd.ntmps4
      go_wp2_with fail
      refine (C.out).mono ?_
      rintro e w1 ⟨rfl, hb⟩
      replace hb := Lib.hid hb
      go_wp2_with fail
      refine (M.out _).mono ?_
      rintro e w2 ⟨rfl, rfl⟩
      go_wp2_with fail
      refine (R.out _).mono ?_
      rintro e w3 ⟨rfl, hd⟩
      replace hb := Lib.hid (Below.tr hb.out (below_drawn hd))
      go_wp2_with fail
      go_ret
      exact ⟨rfl, hb.out⟩
    | true =>
      have h7 := mrk_long hk
      rw [size_list] at h7
      have h7i : (7 : Int) ≤ (s.size : Int) := by omega
      rw [mrk_more hk] at M2
      rw [hk] at M R
      clear hk hd
      go_enter Tryd.func4, Tryd.ntmps4
      go_wp2_with fail
      refine (C.out).mono ?_
      rintro e w1 ⟨rfl, hb⟩
      replace hb := Lib.hid hb
      go_wp2_with fail
      refine (M.out _).mono ?_
      rintro e w2 ⟨rfl, rfl⟩
      go_wp2_with fail
      refine (R.out _).mono ?_
      rintro e w3 ⟨rfl, hd⟩
      replace hb := Lib.hid (Below.tr hb.out (below_drawn hd))
      clear hd
      go_wp2_with fail
      refine (M2.out _).mono ?_
      rintro e w4 ⟨rfl, rfl⟩
      go_wp2_with fail
      go_ret
      exact ⟨rfl, hb.out⟩

end Go.Proofs.YtpecclcihefbaaaDoor.Lin
