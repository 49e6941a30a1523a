/- Small, Same, Place of layer 6's statements: walked by hand. -/
import Derived.Test.YtalkhiggapbfjaaDoorOrI
import Derived.LoopTactic
set_option linter.unusedVariables false
set_option linter.unusedSimpArgs false
namespace Go.Proofs.YtalkhiggapbfjaaDoor.Orp
open Go Go.RowKit Go.Proofs.YtalkhiggapbfjaaDoor.B Go.Proofs.YtalkhiggapbfjaaDoor.St Go.Proofs.YtalkhiggapbfjaaDoor.Mp
/-- A row that can be read. -/
def RAt (w : World) (A : Option Addr) (l : List ByteArray) : Prop := 0 < l.length → ∃ b o, A = some ⟨b, o, none⟩ ∧ ∀ j, j < l.length → w.cell? ⟨b, o + j, none⟩ = some (.string (l.getD j ByteArray.empty))
theorem TAt.rat {w : World} {A : Option Addr} {c : Nat} {l : List ByteArray} (h : TAt w A c l) : RAt w A l := h.2.2.2
theorem SRow.rat {base : Nat} {w : World} {A : Option Addr} {n c : Nat} {l : List ByteArray} (h : SRow base w (.slice A n c) l) : RAt w A l ∧ n = l.length := by
  rcases h.form with ⟨e, rfl⟩ | ⟨g, cap, cur, e, _⟩
  · cases e; exact ⟨fun h => absurd h (by simp), rfl⟩
  · cases e
    exact ⟨fun _ => ⟨g, 0, rfl, fun j hj => by rw [Nat.zero_add]; exact h.at j hj⟩, rfl⟩
theorem take_eq_succ {l m : List ByteArray} {k : Nat} (h : l.take k = m.take k) (hl : k < l.length) (hm : k < m.length) (e : l.getD k ByteArray.empty = m.getD k ByteArray.empty) : l.take (k + 1) = m.take (k + 1) := by
  rw [List.take_succ_eq_append_getElem hl, List.take_succ_eq_append_getElem hm, h]
  simp only [List.getD_eq_getElem?_getD, List.getElem?_eq_getElem hl, List.getElem?_eq_getElem hm, Option.getD_some] at e
  rw [e]
theorem tl_true {x y : ByteArray} (h : x = y) : (x.toList == y.toList) = true := by subst h; simp
theorem tl_false {x y : ByteArray} (h : ¬ x = y) : (x.toList == y.toList) = false := by
  rw [beq_eq_false_iff_ne, ByteArray.toList_eq, ByteArray.toList_eq]
  exact fun e => h (ByteArray.ext (Array.ext' e))
set_option maxHeartbeats 1000000 in
theorem same_c (A B : Option Addr) (c d : Nat) (l m : List ByteArray) (w : World) (hA : RAt w A l) (hB : RAt w B m) (hl : l.length ≤ 1000000) (hm : m.length ≤ 1000000) (b : Bool) (hb : b = true ↔ l = m) :
    Calls Tryd.prog 8 #[.slice A l.length c, .slice B m.length d] w fun e w' => e = .returned (.bool b) ∧ ∃ q, w' = w.drewN q := by
  obtain ⟨n, hn⟩ : ∃ n, l.length = n := ⟨_, rfl⟩
  obtain ⟨p, hp⟩ : ∃ p, m.length = p := ⟨_, rfl⟩
  rw [hn, hp]
  have hn1 : n ≤ 1000000 := by omega
  have hp1 : p ≤ 1000000 := by omega
  have hnH := Lib.hid hn
  have hpH := Lib.hid hp
  have hbH := Lib.hid hb
  have hAH := Lib.hid hA
  have hBH := Lib.hid hB
  clear hl hm hb hA hB
  by_cases hne : n = p
  · subst hne
    go_enter Tryd.func8, Tryd.ntmps8
    go_wp2_with fail
    go_loopw [5] (fun iv wr => ∃ k q : Nat, k ≤ n ∧ iv = .int .i64 k ∧ l.take k = m.take k ∧ wr = w.drewN q) (fun iv _ => n - (intOf iv).toNat)
    case atStart => exact ⟨0, 0, Nat.zero_le _, rfl, rfl, rfl⟩
    case round =>
      obtain ⟨k, q, hk, rfl, htk, rfl⟩ := hrel
      replace htk := Lib.hid htk
      by_cases hlt : k < n
      · obtain ⟨b1, o1, rfl, h1⟩ := hAH.out (by rw [hnH.out]; omega)
        obtain ⟨b2, o2, rfl, h2⟩ := hBH.out (by rw [hpH.out]; omega)
        have c1 := h1 k (by rw [hnH.out]; exact hlt)
        have c2 := h2 k (by rw [hpH.out]; exact hlt)
        obtain ⟨x, hx⟩ : ∃ x, x = l.getD k ByteArray.empty := ⟨_, rfl⟩
        obtain ⟨y, hy⟩ : ∃ y, y = m.getD k ByteArray.empty := ⟨_, rfl⟩
        rw [← hx] at c1
        rw [← hy] at c2
        replace hx := Lib.hid hx
        replace hy := Lib.hid hy
        have hk0 : (0 : Int) ≤ (k : Int) := by omega
        have hk1 : (k : Int) < (n : Int) := by omega
        clear h1 h2
        by_cases hxy : x = y
        · have hq := tl_true hxy
          replace hxy := Lib.hid hxy
          go_wp2_with fail
          go_quiet (fail)
          go_wp2_with fail
          go_roundw
          case rel => exact ⟨k + 1, _, by omega, by go_num, take_eq_succ htk.out (by rw [hnH.out]; exact hlt) (by rw [hpH.out]; exact hlt) (by rw [← hx.out, ← hy.out]; exact hxy.out), rfl⟩
          case measure => simp [intOf]; omega
        · have hbf : b = false := by
            cases b
            · rfl
            · exact absurd (by rw [hx.out, hy.out, hbH.out.1 rfl]) hxy
          subst hbf
          have hq := tl_false hxy
          clear hxy
          go_wp2_with fail
          go_quiet (fail)
          go_wp2_with fail
          go_ret
          exact ⟨rfl, _, World.drewN_drewN _ _ _⟩
      · obtain rfl : k = n := by omega
        have hbt : b = true := hbH.out.2 (by have := htk.out; rw [List.take_of_length_le (by rw [hnH.out]; exact Nat.le_refl _), List.take_of_length_le (by rw [hpH.out]; exact Nat.le_refl _)] at this; exact this)
        subst hbt
        go_wp2_with fail
        go_ret
        exact ⟨rfl, _, rfl⟩
  · have hbf : b = false := by
      cases b
      · rfl
      · exact absurd (by rw [← hn, ← hp, hbH.out.1 rfl]) hne
    subst hbf
    have hB1 : ((n : Int) == (p : Int)) = false := by simpa using (show ¬ (n : Int) = p by omega)
    have hB2 : (!((n : Int) == (p : Int))) = true := by rw [hB1]; rfl
    clear hn hp hne
    go_enter Tryd.func8, Tryd.ntmps8
    go_wp2_with fail
    go_ret
    exact ⟨rfl, 0, rfl⟩
/-- The document's place: some number, not below 0 just where the text is there. -/
def PlaceP (l : List ByteArray) (s : ByteArray) (w : World) (e : Ending) (w' : World) : Prop := ∃ i : Int, e = .returned (.int .i64 i) ∧ (0 ≤ i ↔ s ∈ l) ∧ -1 ≤ i ∧ i ≤ 1000000 ∧ w' = w
set_option maxHeartbeats 1000000 in
theorem place_c (A : Option Addr) (c : Nat) (l : List ByteArray) (s : ByteArray) (w : World) (hA : RAt w A l) (hl : l.length ≤ 1000000) : Calls Tryd.prog 48 #[.slice A l.length c, .string s] w (PlaceP l s w) := by
  obtain ⟨n, hn⟩ : ∃ n, l.length = n := ⟨_, rfl⟩
  rw [hn]
  have hn1 : n ≤ 1000000 := by omega
  have hnH := Lib.hid hn
  have hAH := Lib.hid hA
  clear hl hA hn
  go_enter Tryd.func48, Tryd.ntmps48
  go_wp2_with fail
  go_loop [5] (fun iv => ∃ k : Nat, k ≤ n ∧ iv = .int .i64 k ∧ Hid (s ∉ l.take k)) (fun iv => n - (intOf iv).toNat)
  case atStart => exact ⟨0, Nat.zero_le _, rfl, Lib.hid (by simp)⟩
  case round =>
    obtain ⟨k, hk, rfl, hno⟩ := hrel
    by_cases hlt : k < n
    · obtain ⟨b1, o1, rfl, h1⟩ := hAH.out (by rw [hnH.out]; omega)
      have c1 := h1 k (by rw [hnH.out]; exact hlt)
      obtain ⟨x, hx⟩ : ∃ x, x = l.getD k ByteArray.empty := ⟨_, rfl⟩
      rw [← hx] at c1
      have hxk : l[k]'(by rw [hnH.out]; exact hlt) = x := by rw [hx, List.getD_eq_getElem?_getD, List.getElem?_eq_getElem (by rw [hnH.out]; exact hlt)]; rfl
      replace hx := Lib.hid hx
      replace hxk := Lib.hid hxk
      clear h1
      by_cases hxy : x = s
      · have hq := tl_true hxy
        replace hxy := Lib.hid hxy
        go_wp2_with fail
        go_ret
        exact ⟨k, rfl, ⟨fun _ => by rw [← hxy.out, ← hxk.out]; exact List.getElem_mem _, fun _ => by omega⟩, by omega, by omega, rfl⟩
      · have hq := tl_false hxy
        replace hxy := Lib.hid hxy
        go_wp2_with fail
        go_round
        case rel => exact ⟨k + 1, by omega, by go_num, Lib.hid (fun h => by
          rcases (take_succ_mem (by rw [hnH.out]; exact hlt)).1 h with h | h
          · exact hxy.out (hxk.out.symm.trans h.symm)
          · exact hno.out h)⟩
        case measure => simp [intOf]; omega
    · obtain rfl : k = n := by omega
      have hnot : s ∉ l := by have := hno.out; rw [List.take_of_length_le (by rw [hnH.out]; exact Nat.le_refl _)] at this; exact this
      replace hnot := Lib.hid hnot
      go_wp2_with fail
      go_ret
      exact ⟨-1, rfl, ⟨fun h => absurd h (by omega), fun h => absurd h hnot.out⟩, by omega, by omega, rfl⟩
/-- How many Deps in all. -/
def depSum (zs : List Nx) : Nat := (zs.map fun z => z.deps.length).sum
def SmallB (zs : List Nx) : Bool := decide (zs.length ≤ 60) && decide (depSum zs ≤ 400)
theorem depSum_succ {zs : List Nx} {k : Nat} (hk : k < zs.length) : depSum (zs.take (k + 1)) = depSum (zs.take k) + zs[k].deps.length := by
  unfold depSum
  rw [List.take_succ_eq_append_getElem hk, List.map_append, List.sum_append]
  simp
theorem depSum_mem {zs : List Nx} {z : Nx} (h : z ∈ zs) : z.deps.length ≤ depSum zs := by
  unfold depSum
  induction zs with
  | nil => cases h
  | cons a zs ih =>
    rw [List.map_cons, List.sum_cons]
    rcases List.mem_cons.1 h with rfl | h
    · omega
    · have := ih h; omega
def SmallP (zs : List Nx) (w : World) (e : Ending) (w' : World) : Prop := e = .returned (.bool (SmallB zs)) ∧ Below w.heap.size w w'
set_option maxRecDepth 100000 in
set_option maxHeartbeats 1000000 in
theorem small_c (A : Option Addr) (c : Nat) (zs : List Nx) (w : World) (hS : SetAt w A c zs) : Calls Tryd.prog 6 #[.slice A zs.length c] w (SmallP zs w) := by
  obtain ⟨n, hn⟩ : ∃ n, zs.length = n := ⟨_, rfl⟩
  rw [hn]
  have hn1 : n ≤ 140737488351232 := by have := hS.2.1; omega
  have hnn := Lib.hid hn
  have hSS := Lib.hid hS
  clear hS hn
  by_cases h60 : n ≤ 60
  · go_enter Tryd.func6, Tryd.ntmps6
    go_wp2_with fail
    go_loopw [3, 8] (fun sv iv wr => ∃ k : Nat, k ≤ n ∧ iv = .int .i64 k ∧ sv = .int .i64 ((depSum (zs.take k) : Nat) : Int) ∧ depSum (zs.take k) ≤ k * 140737488351232 ∧ Below w.heap.size w wr) (fun _ iv _ => n - (intOf iv).toNat)
    case atStart => exact ⟨0, Nat.zero_le _, rfl, rfl, by unfold depSum; simp, Below.refl _ _⟩
    case round =>
      obtain ⟨k, hk, rfl, rfl, hb, hB⟩ := hrel
      by_cases hlt : k < n
      · obtain ⟨b, o, rfl, c0, c1, c2, c3⟩ := (hSS.out.below hB).get k (by rw [hnn.out]; exact hlt)
        have hkz : k < zs.length := by rw [hnn.out]; exact hlt
        have hds := depSum_succ hkz
        obtain ⟨x, hx⟩ : ∃ x, x = zs[k] := ⟨_, rfl⟩
        rw [← hx] at c0 c1 c2 c3 hds
        have hdl := (hSS.out.2.2.2 x (by rw [hx]; exact List.getElem_mem _)).2.2.1
        obtain ⟨t, ht⟩ : ∃ t, t = depSum (zs.take k) := ⟨_, rfl⟩
        rw [← ht] at hb hds
        rw [← ht]
        obtain ⟨L, hL⟩ : ∃ L, x.deps.length = L := ⟨_, rfl⟩
        rw [hL] at hdl hds c2
        have ht1 : (t : Int) ≤ 60 * 140737488351232 := by omega
        have hdl1 : (L : Int) ≤ 140737488351232 := by omega
        have hBH := Lib.hid (fun o => hB.alloc hB.size o)
        replace hds := Lib.hid hds
        replace hb := Lib.hid hb
        replace ht := Lib.hid ht
        replace hx := Lib.hid hx
        have hLH := Lib.hid hL
        clear hB hL hdl
        go_wp2_with fail
        go_roundw
        case rel => exact ⟨k + 1, by omega, by go_num, by rw [hds.out]; go_num, by rw [hds.out]; have := hb.out; omega, hBH.out _⟩
        case measure => simp [intOf]; omega
      · obtain rfl : k = n := by omega
        have hBH := Lib.hid hB
        rw [List.take_of_length_le (by rw [hnn.out]; exact Nat.le_refl _)] at hb ⊢
        have h60i : (k : Int) ≤ 60 := by omega
        obtain ⟨t, ht⟩ : ∃ t, t = depSum zs := ⟨_, rfl⟩
        rw [← ht]
        have hsb : decide ((t : Int) ≤ 400) = SmallB zs := by
          unfold SmallB
          rw [hnn.out, ← ht, decide_eq_true h60, Bool.true_and, Bool.eq_iff_iff]
          simp only [decide_eq_true_eq]
          omega
        replace hsb := Lib.hid hsb
        clear hb ht hB
        go_wp2_with fail
        go_ret
        exact ⟨congrArg (fun b => Ending.returned (Value.bool b)) hsb.out, hBH.out⟩
  · have hsb : SmallB zs = false := by unfold SmallB; rw [hnn.out, decide_eq_false h60, Bool.false_and]
    replace hsb := Lib.hid hsb
    go_enter Tryd.func6, Tryd.ntmps6
    go_wp2_with fail
    go_loopw [3, 8] (fun sv iv wr => ∃ (k : Nat) (z : Int), k ≤ n ∧ iv = .int .i64 k ∧ sv = .int .i64 z ∧ Below w.heap.size w wr) (fun _ iv _ => n - (intOf iv).toNat)
    case atStart => exact ⟨0, 0, Nat.zero_le _, rfl, rfl, Below.refl _ _⟩
    case round =>
      obtain ⟨k, z, hk, rfl, rfl, hB⟩ := hrel
      by_cases hlt : k < n
      · obtain ⟨b, o, rfl, c0, c1, c2, c3⟩ := (hSS.out.below hB).get k (by rw [hnn.out]; exact hlt)
        have hkz : k < zs.length := by rw [hnn.out]; exact hlt
        obtain ⟨x, hx⟩ : ∃ x, x = zs[k] := ⟨_, rfl⟩
        rw [← hx] at c0 c1 c2 c3
        have hBH := Lib.hid (fun o => hB.alloc hB.size o)
        replace hx := Lib.hid hx
        clear hB
        go_wp2_with fail
        go_roundw
        case rel => exact ⟨k + 1, _, by omega, by go_num, rfl, hBH.out _⟩
        case measure => simp [intOf]; omega
      · obtain rfl : k = n := by omega
        have hBH := Lib.hid hB
        have h60i : (60 : Int) < (k : Int) := by omega
        clear hB
        go_wp2_with fail
        go_ret
        exact ⟨by rw [hsb.out]; rfl, hBH.out⟩
end Go.Proofs.YtalkhiggapbfjaaDoor.Orp
