/- The document's small functions of layer 6: in, names, all, Add. -/
import Derived.Test.YtalkhiggapbfjaaDoorOrK
set_option linter.unusedVariables false
set_option linter.unusedSimpArgs false
namespace Go.Proofs.YtalkhiggapbfjaaDoor.Orp
open Go Go.RowKit Go.Proofs.YtalkhiggapbfjaaDoor.B Go.Proofs.YtalkhiggapbfjaaDoor.St Go.Proofs.YtalkhiggapbfjaaDoor.Mp
open Go.Proofs.YtalkhiggapbfjaaDoor.Hp (ltB le tob ltB_iff)
set_option maxHeartbeats 1000000 in
theorem in_c (A : Option Addr) (c : Nat) (l : List ByteArray) (s : ByteArray) (w : World) (hA : RAt w A l) (n : Nat) (hn : l.length = n) (hl : n ≤ 1000000) : Calls Tryd.prog 30 #[.slice A n c, .string s] w fun e w' => e = .returned (.bool (inB l s)) ∧ w' = w := by
  subst hn
  by_cases hin : s ∈ l
  · have hb : inB l s = true := inB_iff.2 hin
    rw [hb]
    clear hb
    go_enter Tryd.func30, Tryd.ntmps30
    go_wp2_with fail
    refine (place_c A c l s w hA hl).mono ?_
    rintro e w' ⟨i, rfl, hi, h1, h2, rfl⟩
    have h3 := hi.2 hin
    clear hi
    go_wp2_with fail
    go_ret
    exact ⟨rfl, rfl⟩
  · have hb : inB l s = false := by rw [Bool.eq_false_iff]; exact fun h => hin (inB_iff.1 h)
    rw [hb]
    clear hb
    go_enter Tryd.func30, Tryd.ntmps30
    go_wp2_with fail
    refine (place_c A c l s w hA hl).mono ?_
    rintro e w' ⟨i, rfl, hi, h1, h2, rfl⟩
    have h3 : i < 0 := by
      rcases Int.lt_or_le i 0 with h | h
      · exact h
      · exact absurd (hi.1 h) hin
    clear hi
    go_wp2_with fail
    go_ret
    exact ⟨congrArg (fun b => Ending.returned (Value.bool b)) (decide_eq_false (by omega)), rfl⟩
set_option maxRecDepth 100000 in
set_option maxHeartbeats 1000000 in
theorem names_c (A : Option Addr) (c : Nat) (zs : List Nx) (w : World) (hS : SetAt w A c zs) (n : Nat) (hn : zs.length = n) (hz : n ≤ 1000) : Calls Tryd.prog 29 #[.slice A n c] w fun e w' => ∃ v, e = .returned v ∧ SRow w.heap.size w' v (names zs) ∧ Below w.heap.size w w' := by
  have hnH := Lib.hid hn
  have hSH := Lib.hid hS
  clear hS hn
  go_enter Tryd.func29, Tryd.ntmps29
  go_wp2_with fail
  go_loopw [3, 4] (fun lv iv wr => ∃ k : Nat, k ≤ n ∧ iv = .int .i64 k ∧ SRow w.heap.size wr lv ((names zs).take k) ∧ Below w.heap.size w wr) (fun _ iv _ => n - (intOf iv).toNat)
  case atStart => exact ⟨0, Nat.zero_le _, rfl, SRow.nil _ _, Below.refl _ _⟩
  case round =>
    obtain ⟨k, hk, rfl, hr, hB⟩ := hrel
    obtain ⟨Ao, co, ho⟩ := hr.shape
    have hml : ((names zs).take k).length = k := by rw [List.length_take]; unfold names; rw [List.length_map, hnH.out]; omega
    rw [hml] at ho
    subst ho
    by_cases hlt : k < n
    · have hkz : k < zs.length := by rw [hnH.out]; exact hlt
      obtain ⟨b, o, hA, c0, c1, c2, c3⟩ := (hSH.out.below hB).get k hkz
      subst hA
      obtain ⟨x, hx⟩ : ∃ x, x = zs[k].nm := ⟨_, rfl⟩
      have htk := names_take zs k hkz
      rw [← hx] at c0 htk
      have hws := hB.size
      have e0 : o + k * 4 + 0 = o + k * 4 := Nat.add_zero _
      replace hx := Lib.hid hx
      replace htk := Lib.hid htk
      replace hr := Lib.hid hr
      replace hB := Lib.hid hB
      replace hml := Lib.hid hml
      clear c1 c2 c3 e0
      go_wp2_with (at_builtin; go_loud (refine str_app rfl _ _ 25 rfl Tryd.underlying25 rfl k 1 rfl hr.out hml.out (by omega) hws ?_; intro g6 cap6 w6 hr6 hg6 hl6; replace hr6 := Lib.hid hr6; replace hg6 := Lib.hid hg6; replace hl6 := Lib.hid hl6))
      go_roundw
      case rel => exact ⟨k + 1, by omega, by go_num, by rw [htk.out]; exact hr6.out, below_grew hB.out hws hg6.out (fun j hj => (hr.out.lt j hj).1)⟩
      case measure => simp [intOf]; omega
    · obtain rfl : n = k := by omega
      rw [List.take_of_length_le (by unfold names; rw [List.length_map, hnH.out]; exact Nat.le_refl _)] at hr
      replace hr := Lib.hid hr
      replace hB := Lib.hid hB
      clear hml
      go_wp2_with fail
      go_ret
      exact ⟨_, rfl, hr.out, hB.out⟩
set_option maxRecDepth 100000 in
set_option maxHeartbeats 1000000 in
theorem all_c (A B : Option Addr) (c d : Nat) (l m : List ByteArray) (w : World) (hA : RAt w A l) (hB : RAt w B m) (n k : Nat) (hn : l.length = n) (hk : m.length = k) (h1 : n ≤ 1000000) (h2 : k ≤ 1000000) (b : Bool) (hb : b = true ↔ ∀ x ∈ l, x ∈ m) : Calls Tryd.prog 49 #[.slice A n c, .slice B k d] w fun e w' => e = .returned (.bool b) ∧ w' = w := by
  have hAH := Lib.hid hA
  have hBH := Lib.hid hB
  have hnH := Lib.hid hn
  have hkH := Lib.hid hk
  have hbH := Lib.hid hb
  clear hA hB hn hk hb
  go_enter Tryd.func49, Tryd.ntmps49
  go_wp2_with fail
  go_loopw [5] (fun iv wr => ∃ j : Nat, j ≤ n ∧ iv = .int .i64 j ∧ (∀ x ∈ l.take j, x ∈ m) ∧ wr = w) (fun iv _ => n - (intOf iv).toNat)
  case atStart => exact ⟨0, Nat.zero_le _, rfl, by simp, rfl⟩
  case round =>
    obtain ⟨j, hj, rfl, hall, rfl⟩ := hrel
    by_cases hlt : j < n
    · have hjl : j < l.length := by rw [hnH.out]; exact hlt
      obtain ⟨b1, o1, hA1, hc⟩ := hAH.out (by omega)
      have cx := hc j hjl
      obtain ⟨x, hx⟩ : ∃ x, x = l.getD j ByteArray.empty := ⟨_, rfl⟩
      rw [← hx] at cx
      have hxl : l[j] = x := by rw [hx, List.getD_eq_getElem?_getD, List.getElem?_eq_getElem hjl]; rfl
      have htk : l.take (j + 1) = l.take j ++ [x] := by rw [List.take_succ_eq_append_getElem hjl, hxl]
      have hpl := place_c B d m x wr hBH.out (by rw [hkH.out]; exact h2)
      rw [hkH.out] at hpl
      rw [hA1]
      have hA1H := Lib.hid hA1
      replace hx := Lib.hid hx
      replace hxl := Lib.hid hxl
      replace htk := Lib.hid htk
      replace hpl := Lib.hid hpl
      replace hall := Lib.hid hall
      clear hc hA1
      by_cases hin : x ∈ m
      · replace hin := Lib.hid hin
        go_wp2_with fail
        refine hpl.out.mono ?_
        rintro e w' ⟨i, rfl, hi, h3, h4, rfl⟩
        have h5 := hi.2 hin.out
        clear hi
        go_wp2_with fail
        go_roundw
        case rel => exact ⟨j + 1, by omega, by go_num, by
          rw [htk.out]
          intro y hy
          rcases List.mem_append.1 hy with hy | hy
          · exact hall.out y hy
          · rw [List.mem_singleton.1 hy]; exact hin.out, trivial⟩
        case measure => simp [intOf]; omega
      · have hbf : b = false := by
          rw [Bool.eq_false_iff]
          exact fun h => hin (hbH.out.1 h x (by rw [← hxl.out]; exact List.getElem_mem _))
        subst hbf
        replace hin := Lib.hid hin
        go_wp2_with fail
        refine hpl.out.mono ?_
        rintro e w' ⟨i, rfl, hi, h3, h4, rfl⟩
        have h5 : i < 0 := by
          rcases Int.lt_or_le i 0 with h | h
          · exact h
          · exact absurd (hi.1 h) hin.out
        clear hi
        go_wp2_with fail
        go_ret
        exact ⟨rfl, rfl⟩
    · obtain rfl : n = j := by omega
      have hbt : b = true := hbH.out.2 (by rw [List.take_of_length_le (by rw [hnH.out]; exact Nat.le_refl _)] at hall; exact hall)
      subst hbt
      replace hall := Lib.hid hall
      go_wp2_with fail
      go_ret
      exact ⟨rfl, rfl⟩
theorem ss_pl {l : List ByteArray} : SS (toL l) ↔ l.Pairwise ltB := by
  unfold toL SS
  rw [List.pairwise_map]
  exact ⟨fun h => h.imp fun {a b} h => (ltB_iff a b).2 h, fun h => h.imp fun {a b} h => (ltB_iff a b).1 h⟩
theorem pl_snoc {l : List ByteArray} {x : ByteArray} (h : l.Pairwise ltB) (hx : ∀ y ∈ l, ltB y x) : (l ++ [x]).Pairwise ltB := by
  rw [List.pairwise_append]
  exact ⟨h, by simp, fun a ha b hb => by rw [List.mem_singleton.1 hb]; exact hx a ha⟩
theorem pl_split {l : List ByteArray} (h : l.Pairwise ltB) {k : Nat} (hk : k < l.length) : (∀ y ∈ l.take k, ltB y l[k]) ∧ ∀ y ∈ l.drop (k + 1), ltB l[k] y := by
  have e : l = l.take k ++ l[k] :: l.drop (k + 1) := by rw [← List.drop_eq_getElem_cons hk, List.take_append_drop]
  rw [e, List.pairwise_append, List.pairwise_cons] at h
  exact ⟨fun y hy => h.2.2 y hy _ (List.mem_cons_self ..), h.2.1.1⟩
/-- While a name is put in its place: k are gone through. -/
structure AddI (l : List ByteArray) (nm : ByteArray) (k : Nat) (out : List ByteArray) (dn : Bool) : Prop where
  pl : out.Pairwise ltB
  mem : ∀ y, y ∈ out ↔ y ∈ l.take k ∨ (dn = true ∧ y = nm)
  lo : dn = false → ∀ y ∈ l.take k, ltB y nm
  hi : dn = true → ∀ y ∈ l.drop k, ltB nm y
  len : out.length = k + (if dn = true then 1 else 0)
theorem AddI.start (l : List ByteArray) (nm : ByteArray) : AddI l nm 0 [] false := ⟨.nil, fun y => by simp, fun _ y h => absurd h (by simp), fun h => absurd h (by decide), by simp⟩
theorem AddI.next {l : List ByteArray} {nm : ByteArray} {k : Nat} {out : List ByteArray} {dn : Bool} (h : AddI l nm k out dn) (hl : l.Pairwise ltB) (hk : k < l.length) (hd : dn = true ∨ ltB l[k] nm) : AddI l nm (k + 1) (out ++ [l[k]]) dn := by
  obtain ⟨h1, h2⟩ := pl_split hl hk
  have htk : l.take (k + 1) = l.take k ++ [l[k]] := List.take_succ_eq_append_getElem hk
  refine ⟨pl_snoc h.pl fun y hy => ?_, fun y => ?_, fun hf y hy => ?_, fun ht y hy => h.hi ht y ?_, ?_⟩
  · rcases (h.mem y).1 hy with hy | ⟨ht, rfl⟩
    · exact h1 y hy
    · exact h.hi ht _ (by rw [List.drop_eq_getElem_cons hk]; exact List.mem_cons_self ..)
  · rw [List.mem_append, h.mem, htk, List.mem_append, List.mem_singleton]
    constructor
    · rintro ((a | a) | a)
      · exact .inl (.inl a)
      · exact .inr a
      · exact .inl (.inr a)
    · rintro ((a | a) | a)
      · exact .inl (.inl a)
      · exact .inr a
      · exact .inl (.inr a)
  · rw [htk, List.mem_append] at hy
    rcases hy with hy | hy
    · exact h.lo hf y hy
    · rw [List.mem_singleton.1 hy]
      rcases hd with e | e
      · rw [hf] at e; cases e
      · exact e
  · rw [List.drop_eq_getElem_cons hk]; exact List.mem_cons_of_mem _ hy
  · rw [List.length_append, List.length_singleton, h.len]; omega
theorem AddI.put {l : List ByteArray} {nm : ByteArray} {k : Nat} {out : List ByteArray} (h : AddI l nm k out false) (hl : l.Pairwise ltB) (hk : k < l.length) (hd : ltB nm l[k]) : AddI l nm k (out ++ [nm]) true := by
  obtain ⟨h1, h2⟩ := pl_split hl hk
  refine ⟨pl_snoc h.pl fun y hy => ?_, fun y => ?_, fun hf => (by cases hf), fun _ y hy => ?_, ?_⟩
  · rcases (h.mem y).1 hy with hy | ⟨ht, _⟩
    · exact h.lo rfl y hy
    · cases ht
  · rw [List.mem_append, h.mem, List.mem_singleton]
    simp
  · rw [List.drop_eq_getElem_cons hk] at hy
    rcases List.mem_cons.1 hy with rfl | hy
    · exact hd
    · exact tob.tr _ _ _ hd (h2 y hy)
  · rw [List.length_append, List.length_singleton, h.len]; simp
def AddP (base : Nat) (l : List ByteArray) (nm : ByteArray) (w : World) (e : Ending) (w' : World) : Prop := ∃ v' l', e = .returned v' ∧ SRow base w' v' l' ∧ SS (toL l') ∧ (∀ y, y ∈ l' ↔ y = nm ∨ y ∈ l) ∧ Below w.heap.size w w'
set_option maxRecDepth 100000 in
set_option maxHeartbeats 1000000 in
theorem add_c {base : Nat} (v : Value) (l : List ByteArray) (nm : ByteArray) (w : World) (hr : SRow base w v l) (hs : SS (toL l)) (hl : l.length ≤ 100000) (hb : base ≤ w.heap.size) : Calls Tryd.prog 35 #[v, .string nm] w (AddP base l nm w) := by
  obtain ⟨A, c, rfl⟩ := hr.shape
  obtain ⟨n, hn⟩ : ∃ n, l.length = n := ⟨_, rfl⟩
  have hpl := place_c A c l nm w (SRow.rat hr).1 (by omega)
  rw [hn] at hr hl hpl ⊢
  have hnH := Lib.hid hn
  have hrH := Lib.hid hr
  have hsH := Lib.hid hs
  have hplH := Lib.hid hpl
  clear hr hs hpl hn
  by_cases hin : nm ∈ l
  · replace hin := Lib.hid hin
    go_enter Tryd.func35, Tryd.ntmps35
    go_wp2_with fail
    refine hplH.out.mono ?_
    rintro e w' ⟨i, rfl, hi, h3, h4, rfl⟩
    have h5 := hi.2 hin.out
    clear hi
    go_wp2_with fail
    go_ret
    exact ⟨_, l, rfl, hrH.out, hsH.out, fun y => ⟨.inr, fun h => h.elim (fun e => e ▸ hin.out) id⟩, Below.refl _ _⟩
  · have hL := ss_pl.1 hsH.out
    replace hin := Lib.hid hin
    replace hL := Lib.hid hL
    go_enter Tryd.func35, Tryd.ntmps35
    go_wp2_with fail
    refine hplH.out.mono ?_
    rintro e w' ⟨i, rfl, hi, h3, h4, rfl⟩
    have h5 : i < 0 := by
      rcases Int.lt_or_le i 0 with h | h
      · exact h
      · exact absurd (hi.1 h) hin.out
    clear hi hplH
    go_wp2_with fail
    go_loopw [5, 6, 7] (fun ov dv iv wr => ∃ (k : Nat) (out : List ByteArray) (dn : Bool), k ≤ n ∧ iv = .int .i64 k ∧ dv = .bool dn ∧ SRow w'.heap.size wr ov out ∧ AddI l nm k out dn ∧ Below w'.heap.size w' wr) (fun _ _ iv _ => n - (intOf iv).toNat)
    case atStart => exact ⟨0, [], false, Nat.zero_le _, rfl, rfl, SRow.nil _ _, AddI.start _ _, Below.refl _ _⟩
    case round =>
      obtain ⟨k, out, dn, hk, rfl, rfl, hro, hI, hB⟩ := hrel
      obtain ⟨Ao, co, ho⟩ := hro.shape
      obtain ⟨m, hm⟩ : ∃ m, out.length = m := ⟨_, rfl⟩
      have hmk : m ≤ k + 1 := by rw [← hm, hI.len]; split <;> omega
      rw [hm] at ho
      subst ho
      have hws := hB.size
      by_cases hlt : k < n
      · have hkl : k < l.length := by rw [hnH.out]; exact hlt
        obtain ⟨g, hg, -⟩ := hrH.out.addr (by omega)
        have hrw := srow_below hrH.out hB
        subst hg
        have cx := hrw.at k hkl
        obtain ⟨x, hx⟩ : ∃ x, x = l.getD k ByteArray.empty := ⟨_, rfl⟩
        have hxk : l[k] = x := by rw [hx, List.getD_eq_getElem?_getD, List.getElem?_eq_getElem hkl]; rfl
        rw [← hx] at cx
        have hrwH := Lib.hid hrw
        replace hx := Lib.hid hx
        replace hro := Lib.hid hro
        replace hB := Lib.hid hB
        replace hm := Lib.hid hm
        have hne : some g ≠ (Value.slice Ao m co).ownBlock := fun e => by
          have h1 := (hro.out.lt g e.symm).1
          have h2 := (hrH.out.lt g rfl).2
          omega
        cases dn
        · by_cases hlt2 : ltB nm x
          · have hb1 : Op.bytesLess x.toList nm.toList = false := by
              have h2 : ¬ ltB x nm := fun h => tob.irr _ (tob.tr _ _ _ h hlt2)
              unfold ltB at h2
              simpa using h2
            have hq := tl_false (fun e : x = nm => tob.irr nm (e ▸ hlt2))
            have hI2 : AddI l nm (k + 1) ((out ++ [nm]) ++ [x]) true := by
              have h1 := hI.put hL.out hkl (by rw [hxk]; exact hlt2)
              have := h1.next hL.out hkl (.inl rfl)
              rw [hxk] at this
              exact this
            have hm6 : (out ++ [nm]).length = m + 1 := by rw [List.length_append, hm.out]; rfl
            replace hI := Lib.hid hI
            replace hI2 := Lib.hid hI2
            replace hxk := Lib.hid hxk
            replace hlt2 := Lib.hid hlt2
            clear hrw
            go_wp2_with (first
              | (at_builtin; refine str_app rfl _ _ 25 rfl Tryd.underlying25 rfl m 1 rfl hro.out hm.out (by omega) hws ?_; intro g6 cap6 w6 hr6 hg6 hl6; have cx6 := hg6.cell cx hne; have hws6 := Nat.le_trans hws hg6.1; replace hr6 := Lib.hid hr6; replace hg6 := Lib.hid hg6; replace hl6 := Lib.hid hl6)
              | (at_builtin; refine str_app rfl _ _ 25 rfl Tryd.underlying25 rfl (m + 1) 1 rfl hr6.out hm6 (by omega) hws6 ?_; intro g8 cap8 w8 hr8 hg8 hl8; replace hr8 := Lib.hid hr8; replace hg8 := Lib.hid hg8; replace hl8 := Lib.hid hl8))
            go_roundw
            case rel => exact ⟨k + 1, _, true, by omega, by go_num, rfl, hr8.out, hI2.out, below_grew (below_grew hB.out hws hg6.out (fun j hj => (hro.out.lt j hj).1)) hws6 hg8.out (fun j hj => (hr6.out.lt j hj).1)⟩
            case measure => simp [intOf]; omega
          · have hxn : x ≠ nm := fun e => hin.out (by rw [← e, ← hxk]; exact List.getElem_mem _)
            have hb1 : Op.bytesLess x.toList nm.toList = true := by
              rcases tob.tot x nm hxn with h | h
              · exact h
              · exact absurd h hlt2
            have hI2 : AddI l nm (k + 1) (out ++ [x]) false := by
              have := hI.next hL.out hkl (.inr (by
                rw [hxk]
                rcases tob.tot x nm (fun e => hin.out (by rw [← e, ← hxk]; exact List.getElem_mem _)) with h | h
                · exact h
                · exact absurd h hlt2))
              rw [hxk] at this
              exact this
            replace hI := Lib.hid hI
            replace hI2 := Lib.hid hI2
            replace hxk := Lib.hid hxk
            replace hlt2 := Lib.hid hlt2
            clear hrw
            go_wp2_with (at_builtin; go_loud (refine str_app rfl _ _ 25 rfl Tryd.underlying25 rfl m 1 rfl hro.out hm.out (by omega) hws ?_; intro g6 cap6 w6 hr6 hg6 hl6; replace hr6 := Lib.hid hr6; replace hg6 := Lib.hid hg6; replace hl6 := Lib.hid hl6))
            go_roundw
            case rel => exact ⟨k + 1, _, false, by omega, by go_num, rfl, hr6.out, hI2.out, below_grew hB.out hws hg6.out (fun j hj => (hro.out.lt j hj).1)⟩
            case measure => simp [intOf]; omega
        · have hI2 : AddI l nm (k + 1) (out ++ [x]) true := by
            have := hI.next hL.out hkl (.inl rfl)
            rw [hxk] at this
            exact this
          replace hI := Lib.hid hI
          replace hI2 := Lib.hid hI2
          replace hxk := Lib.hid hxk
          clear hrw
          go_wp2_with (at_builtin; go_loud (refine str_app rfl _ _ 25 rfl Tryd.underlying25 rfl m 1 rfl hro.out hm.out (by omega) hws ?_; intro g6 cap6 w6 hr6 hg6 hl6; replace hr6 := Lib.hid hr6; replace hg6 := Lib.hid hg6; replace hl6 := Lib.hid hl6))
          go_roundw
          case rel => exact ⟨k + 1, _, true, by omega, by go_num, rfl, hr6.out, hI2.out, below_grew hB.out hws hg6.out (fun j hj => (hro.out.lt j hj).1)⟩
          case measure => simp [intOf]; omega
      · obtain rfl : n = k := by omega
        have hln : l.take n = l := List.take_of_length_le (by rw [hnH.out]; exact Nat.le_refl _)
        have hmem := hI.mem
        have hlo := hI.lo
        rw [hln] at hmem hlo
        have hpo := hI.pl
        have hbo : ∀ q, (Value.slice Ao m co).ownBlock = some q → base ≤ q := fun q hq => Nat.le_trans hb (hro.lt q hq).1
        replace hro := Lib.hid hro
        replace hB := Lib.hid hB
        replace hm := Lib.hid hm
        replace hmem := Lib.hid hmem
        replace hlo := Lib.hid hlo
        replace hpo := Lib.hid hpo
        replace hbo := Lib.hid hbo
        clear hI hln
        cases dn
        · go_wp2_with (at_builtin; go_loud (refine str_app rfl _ _ 25 rfl Tryd.underlying25 rfl m 1 rfl hro.out hm.out (by omega) hws ?_; intro g6 cap6 w6 hr6 hg6 hl6; replace hr6 := Lib.hid hr6; replace hg6 := Lib.hid hg6; replace hl6 := Lib.hid hl6))
          go_ret
          refine ⟨_, out ++ [nm], rfl, hr6.out.base (fun q hq => Nat.le_trans hb (hr6.out.lt q hq).1), ss_pl.2 (pl_snoc hpo.out fun y hy => ?_), fun y => ?_, below_grew hB.out hws hg6.out (fun j hj => (hro.out.lt j hj).1)⟩
          · rcases (hmem.out y).1 hy with h | ⟨h, _⟩
            · exact hlo.out trivial y h
            · cases h
          · rw [List.mem_append, List.mem_singleton, hmem.out y]
            constructor
            · rintro ((h | ⟨h, _⟩) | h)
              · exact .inr h
              · cases h
              · exact .inl h
            · rintro (h | h)
              · exact .inr h
              · exact .inl (.inl h)
        · go_wp2_with fail
          go_ret
          refine ⟨_, out, rfl, hro.out.base hbo.out, ss_pl.2 hpo.out, fun y => ?_, hB.out⟩
          rw [hmem.out y]
          constructor
          · rintro (h | ⟨_, h⟩)
            · exact .inr h
            · exact .inl h
          · rintro (h | h)
            · exact .inr ⟨trivial, h⟩
            · exact .inl h
end Go.Proofs.YtalkhiggapbfjaaDoor.Orp
