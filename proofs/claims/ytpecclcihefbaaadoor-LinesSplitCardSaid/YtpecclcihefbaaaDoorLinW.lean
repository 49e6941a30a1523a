/- The walks of package lines (Split, Join, Marker), of the statements' awake, and the document's functions as contracts. -/
import Derived.Test.YtpecclcihefbaaaDoorLinR
import Derived.Test.YtpecclcihefbaaaDoorShelf
import Derived.Test.YtpecclcihefbaaaDoorBase
import Derived.WalkKit
import Derived.WalkSpells
import Derived.WalkLawsBesides
import Derived.Deep.DeepFit
set_option linter.unusedVariables false
set_option linter.unusedSimpArgs false
namespace Go.Proofs.YtpecclcihefbaaaDoor.Lin
open Go Go.RowKit Go.Proofs.YtpecclcihefbaaaDoor.B Go.Proofs.YtpecclcihefbaaaDoorW.PrintWords

/-- The library's variable that a search reads holds some int. -/
def MaxL (w : World) : Prop := ∃ m, w.cell? ⟨1, 0, none⟩ = some (.int .i64 m)
theorem MaxL.below {w w' : World} (h : MaxL w) (hb : Below w.heap.size w w') : MaxL w' := by
  obtain ⟨m, hm⟩ := h
  exact ⟨m, (hb.cell (World.block_lt_of_cell? _ _ hm)).trans hm⟩
theorem below_drawn {w w' : World} (h : Drawn0 w w') : Below w.heap.size w w' := by
  obtain ⟨n, rfl⟩ := h.out
  exact pw_below_drewN (Below.refl _ _) n
theorem Below.tr {w w1 w2 : World} (h : Below w.heap.size w w1) (k : Below w1.heap.size w1 w2) : Below w.heap.size w w2 := h.trans (k.mono h.size)
theorem add_plain (b o j : Nat) : (⟨b, o, none⟩ : Addr).add j = ⟨b, o + j, none⟩ := by
  unfold Addr.add; split
  · rename_i h; subst h; rfl
  · rfl
/-- A row of texts in a block. -/
theorem C_block {w : World} {b : Nat} {l : List ByteArray} {t : TypeId} {fz : Nat × Nat} (h : w.heap[b]? = some (.cells (l.map Value.string).toArray t fz)) (hl : l.length ≤ 9223372036854775807) :
    Kd.C Kd.string w (some ⟨b, 0, none⟩) l.length l := by
  refine ⟨rfl, hl, fun _ => ⟨_, rfl, fun j p hj => ⟨[.string p], rfl, rfl, fun i u hu => ?_⟩⟩⟩
  have hjl := (List.getElem?_eq_some_iff.1 hj).1
  cases i with
  | succ i => simp at hu
  | zero =>
    simp only [List.getElem?_cons_zero, Option.some.injEq] at hu
    subst hu
    show w.cell? ((⟨b, 0, none⟩ : Addr).add (j * 1 + 0)) = _
    rw [add_plain, cell_of h]
    simp [hj]
theorem C_cell {w : World} {A : Option Addr} {n : Nat} {l : List ByteArray} (h : Kd.C Kd.string w A n l) (j : Nat) (hj : j < n) : ∃ b o, A = some ⟨b, o, none⟩ ∧ w.cell? ⟨b, o + j, none⟩ = some (.string (l.getD j ByteArray.empty)) := by
  obtain ⟨hl, _, hc⟩ := h
  obtain ⟨ad, hA, hq⟩ := hc (by omega)
  subst hA
  clear hc
  have cell : ∀ i, i < n → w.cell? (ad.add i) = some (.string (l.getD i ByteArray.empty)) := by
    intro i hi
    obtain ⟨c, _, hr, hcell⟩ := hq i (l.getD i ByteArray.empty) (by rw [List.getD_eq_getElem?_getD, List.getElem?_eq_getElem (by omega)]; rfl)
    have hr' : c = [.string (l.getD i ByteArray.empty)] := hr
    have := hcell 0 _ (by rw [hr']; rfl)
    rwa [Nat.add_zero, show i * Kd.sz Kd.string = i from Nat.mul_one i] at this
  have h0 := cell 0 (by omega)
  have e0 : ad.add 0 = ad := by simp [Addr.add]
  rw [e0] at h0
  have e1 : ad = ⟨ad.block, ad.off, none⟩ := by
    have := World.cell?_spot h0
    obtain ⟨b, o, s⟩ := ad
    simp only at this
    rw [this]
  refine ⟨ad.block, ad.off, by rw [← e1], ?_⟩
  have := cell j hj
  rw [e1, add_plain] at this
  exact this

/-- lines.Split. -/
def SplitPost (s : ByteArray) (w : World) (e : Ending) (w' : World) : Prop :=
  ∃ b n c, e = .returned (.slice (some ⟨b, 0, none⟩) n c) ∧ n = (spl s.data.toList).length ∧ n = c ∧ Kd.C Kd.string w' (some ⟨b, 0, none⟩) n ((spl s.data.toList).map bs) ∧ Below w.heap.size w w'
theorem pieces_bs (s : ByteArray) : Lib.splitB ⟨#[10]⟩ 0 (Lib.countB s ⟨#[10]⟩) s = (spl s.data.toList).map bs := by
  rw [← bs_ls (Lib.splitB _ _ _ _)]
  congr 1
  exact (Lib.splitB_data ⟨#[10]⟩ 0 _ s).trans (splitK_spl s.data.toList)
theorem Split_any (s : ByteArray) (w : World) (hm : MaxL w) (hs : s.size ≤ 1000000) : Calls Tryd.prog 13 #[.string s] w (SplitPost s w) := by
  obtain ⟨m, hm⟩ := hm
  have C := Tryd.strings_Split s ⟨#[10]⟩ m w (by omega) hm (by decide)
  have hp := pieces_bs s
  have hn : Lib.countB s ⟨#[10]⟩ + 1 = (spl s.data.toList).length := by
    have := Lib.splitB_all ⟨#[10]⟩ (by decide) 0 _ s rfl
    rw [hp, List.length_map] at this
    exact this.symm
  rw [hp, hn] at C
  have hl : (spl s.data.toList).length ≤ 9223372036854775807 := by
    rw [spl_length]
    have := List.count_le_length (a := (10 : UInt8)) (l := s.data.toList)
    rw [size_list] at this
    omega
  have Fin : ∀ w', w' = w.alloc (.cells (((spl s.data.toList).map bs).map Value.string).toArray 9) → SplitPost s w (.returned (.slice (some ⟨w.heap.size, 0, none⟩) (spl s.data.toList).length (spl s.data.toList).length)) w' := by
    rintro w' rfl
    refine ⟨_, _, _, rfl, rfl, rfl, ?_, (Below.refl _ _).alloc (Nat.le_refl _) _⟩
    have := C_block (heap_alloc_at w (.cells (((spl s.data.toList).map bs).map Value.string).toArray 9)) (by rw [List.length_map]; exact hl)
    rwa [List.length_map] at this
  have CH := Lib.hid C
  have FinH := Lib.hid Fin
  clear C hp hn hl Fin hm
  go_enter Tryd.func13, Tryd.ntmps13
  go_wp2_with (go_at_call 31; refine (CH.out).mono ?_; rintro e w' ⟨rfl, hw⟩; replace hw := Lib.hid hw)
  go_ret
  exact FinH.out _ hw.out

/-- lines.Join. -/
theorem join_nil_any (A : Option Addr) (c : Nat) (w : World) : Calls Tryd.prog 10 #[.slice A 0 c] w fun e w' => e = .returned (.string (bs [])) ∧ Below w.heap.size w w' := by
  have C := Lib.hid (Tryd.strings_Join_none A c ⟨#[10]⟩ w)
  go_enter Tryd.func10, Tryd.ntmps10
  go_wp2_with (go_at_call 30; refine (C.out).mono ?_; rintro e w' ⟨rfl, rfl⟩)
  go_ret
  exact ⟨rfl, Below.refl _ _⟩
theorem Join_any (A : Option Addr) (n c : Nat) (l : List ByteArray) (w : World) (hC : Kd.C Kd.string w A n l) (hc : n ≤ c) (hlen : (jn (ls l)).length ≤ 140737488355328) (hn : n ≤ 140737488355328) :
    Calls Tryd.prog 10 #[.slice A n c] w fun e w' => e = .returned (.string (bs (jn (ls l)))) ∧ Below w.heap.size w w' := by
  obtain rfl : l.length = n := hC.1
  rcases Nat.eq_zero_or_pos l.length with h0 | h0
  · obtain rfl : l = [] := List.eq_nil_of_length_eq_zero h0
    exact join_nil_any A c w
  · obtain ⟨b, o, rfl, h1⟩ := C_cell hC 0 h0
    have cells : ∀ (j : Nat) x, l[j]? = some x → w.cell? ⟨b, o + j, none⟩ = some (.string x) := by
      intro j x hj
      have hjl := (List.getElem?_eq_some_iff.1 hj).1
      obtain ⟨b', o', e, hcell⟩ := C_cell hC j hjl
      injection e with e
      injection e with e1 e2
      subst e1 e2
      rw [hcell, List.getD_eq_getElem?_getD, hj]; rfl
    have hlt : b < w.heap.size := World.block_lt_of_cell? _ _ h1
    have C := Tryd.strings_Join b o c l ⟨#[10]⟩ w cells hlt hn hc (by rw [show ((⟨#[10]⟩ : ByteArray).data.toList) = [10] from rfl, join_jn]; exact hlen)
    rw [show ((⟨#[10]⟩ : ByteArray).data.toList) = [10] from rfl, join_jn] at C
    have CH := Lib.hid C
    clear C cells hC h1 hlen
    go_enter Tryd.func10, Tryd.ntmps10
    go_wp2_with (go_at_call 30; refine (CH.out).mono ?_; rintro e w' ⟨rfl, hw⟩; replace hw := Lib.hid hw)
    go_ret
    exact ⟨rfl, hw.out⟩

/-- lines.Marker. -/
theorem Marker_any (s : ByteArray) (w : World) : Calls Tryd.prog 14 #[.string s] w fun e w' => e = .returned (.bool (mrk s.data.toList)) ∧ w' = w := by
  have C : ∀ p : ByteArray, Calls Tryd.prog 32 #[.string s, .string p] w fun e w' => e = .returned (.bool (p.data.toList.isPrefixOf s.data.toList)) ∧ w' = w := fun p => Tryd.strings_HasPrefix s p w
  have e1 : (⟨#[62, 62, 62, 62, 62, 62, 62]⟩ : ByteArray).data.toList = List.replicate 7 62 := rfl
  have e2 : (⟨#[61, 61, 61, 61, 61, 61, 61]⟩ : ByteArray).data.toList = List.replicate 7 61 := rfl
  have e3 : (⟨#[60, 60, 60, 60, 60, 60, 60]⟩ : ByteArray).data.toList = List.replicate 7 60 := rfl
  have C1 := C ⟨#[62, 62, 62, 62, 62, 62, 62]⟩
  have C2 := C ⟨#[61, 61, 61, 61, 61, 61, 61]⟩
  have C3 := C ⟨#[60, 60, 60, 60, 60, 60, 60]⟩
  rw [e1] at C1
  rw [e2] at C2
  rw [e3] at C3
  have hm : mrk s.data.toList = ((List.replicate 7 62).isPrefixOf s.data.toList || (List.replicate 7 61).isPrefixOf s.data.toList || (List.replicate 7 60).isPrefixOf s.data.toList) := rfl
  generalize (List.replicate 7 (62 : UInt8)).isPrefixOf s.data.toList = p1 at *
  generalize (List.replicate 7 (61 : UInt8)).isPrefixOf s.data.toList = p2 at *
  generalize (List.replicate 7 (60 : UInt8)).isPrefixOf s.data.toList = p3 at *
  rw [hm]
  clear hm C e1 e2 e3
  replace C1 := Lib.hid C1
  replace C2 := Lib.hid C2
  replace C3 := Lib.hid C3
  cases p1
  · cases p2
    · cases p3
      all_goals
        go_enter Tryd.func14, Tryd.ntmps14
        go_wp2_with fail
        refine (C1.out).mono ?_; rintro e w' ⟨rfl, rfl⟩
        go_wp2_with fail
        refine (C2.out).mono ?_; rintro e w' ⟨rfl, rfl⟩
        go_wp2_with fail
        refine (C3.out).mono ?_; rintro e w' ⟨rfl, rfl⟩
        go_wp2_with fail
        go_ret
        exact ⟨rfl, rfl⟩
    · go_enter Tryd.func14, Tryd.ntmps14
      go_wp2_with fail
      refine (C1.out).mono ?_; rintro e w' ⟨rfl, rfl⟩
      go_wp2_with fail
      refine (C2.out).mono ?_; rintro e w' ⟨rfl, rfl⟩
      go_wp2_with fail
      go_ret
      exact ⟨rfl, rfl⟩
  · go_enter Tryd.func14, Tryd.ntmps14
    go_wp2_with fail
    refine (C1.out).mono ?_; rintro e w' ⟨rfl, rfl⟩
    go_wp2_with fail
    go_ret
    exact ⟨rfl, rfl⟩

end Go.Proofs.YtpecclcihefbaaaDoor.Lin
