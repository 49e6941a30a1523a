/- order.Linear: its walk. -/
import Derived.Test.YtalkhiggapbfjaaDoorOrN
import Derived.Test.YtalkhiggapbfjaaDoorOrS
import Derived.Test.YtalkhiggapbfjaaDoorShelf
import Derived.Deep.LoopGhost
set_option linter.unusedVariables false
set_option linter.unusedSimpArgs false
namespace Go.Proofs.YtalkhiggapbfjaaDoor.Orp
open Go Go.RowKit Go.Proofs.YtalkhiggapbfjaaDoor.B Go.Proofs.YtalkhiggapbfjaaDoor.St Go.Proofs.YtalkhiggapbfjaaDoor.Mp
open Go.Proofs.YtalkhiggapbfjaaDoor.Hp (ltB HeapAt HAt Hgr le hpush_c hpop_c len_c)
def LinPost (zs : List Nx) (w : World) (e : Ending) (w' : World) : Prop := Below w.heap.size w w' ∧
  ((¬ (names zs).Nodup ∧ e = .returned (.tuple #[.slice none 0 0, .iface 48 (.int .i64 12)])) ∨
  ((names zs).Nodup ∧ ∃ l, Lin ltB (nds zs) l ∧ ((l.length < zs.length ∧ e = .returned (.tuple #[.slice none 0 0, .iface 48 (.int .i64 11)])) ∨ ∃ v, l.length = zs.length ∧ e = .returned (.tuple #[v, .nilIface]) ∧ SRow w.heap.size w' v l)))
theorem nodup_dup {zs : List Nx} {k : Nat} {s : ByteArray} (ht : (names zs).take (k + 1) = (names zs).take k ++ [s]) (hin : s ∈ (names zs).take k) : ¬ (names zs).Nodup := by
  intro hn
  have h1 : ((names zs).take (k + 1)).Nodup := List.Nodup.sublist (List.take_sublist _ _) hn
  rw [ht, List.nodup_append] at h1
  exact h1.2.2 s hin s (by simp) rfl
theorem nodup_snoc {l : List ByteArray} {s : ByteArray} (h : l.Nodup) (hs : s ∉ l) : (l ++ [s]).Nodup := by
  rw [List.nodup_append]
  exact ⟨h, by simp, fun a ha b hb e => by simp at hb; subst hb; subst e; exact hs ha⟩
/-- What the second loop counts. -/
noncomputable def cnt2 (zs : List Nx) (k : Nat) (s : ByteArray) : Nat := open Classical in if s ∈ (names zs).take k then (once (depsOf zs s)).length else 0
noncomputable def cnt3 (zs : List Nx) (k : Nat) (x : Nx) (j : Nat) (s : ByteArray) : Nat := open Classical in if s = x.nm then j else cnt2 zs k s
def rows2 (zs : List Nx) (k : Nat) (d : ByteArray) : List ByteArray := usersOf (nds (zs.take k)) d
noncomputable def rows3 (zs : List Nx) (k : Nat) (x : Nx) (j : Nat) (d : ByteArray) : List ByteArray := open Classical in if d ∈ (once x.deps).take j then rows2 zs k d ++ [x.nm] else rows2 zs k d
theorem c3_zero {zs : List Nx} {k : Nat} {x : Nx} (hx : x.nm ∉ (names zs).take k) : WF (names zs) (cnt3 zs k x 0) = WF (names zs) (cnt2 zs k) := WF_congr fun s _ => by
  unfold cnt3 cnt2
  by_cases e : s = x.nm
  · subst e; rw [if_pos rfl, if_neg hx]
  · rw [if_neg e]
theorem c3_next {zs : List Nx} {k j : Nat} {x : Nx} (hx : x.nm ∈ names zs) : upd (WF (names zs) (cnt3 zs k x j)) x.nm (.int .i64 ((j + 1 : Nat) : Int)) = WF (names zs) (cnt3 zs k x (j + 1)) := by
  rw [WF_upd hx]
  refine WF_congr fun s _ => ?_
  unfold cnt3
  by_cases e : s = x.nm
  · rw [if_pos e, if_pos e]
  · rw [if_neg e, if_neg e, if_neg e]
theorem c3_end {zs : List Nx} {k : Nat} {x : Nx} (hn : (names zs).Nodup) (hx : x ∈ zs) (ht : (names zs).take (k + 1) = (names zs).take k ++ [x.nm]) : WF (names zs) (cnt3 zs k x (once x.deps).length) = WF (names zs) (cnt2 zs (k + 1)) := WF_congr fun s _ => by
  unfold cnt3 cnt2
  rw [ht]
  by_cases e : s = x.nm
  · subst e; rw [if_pos rfl, if_pos (by simp), depsOf_nm hn hx]
  · rw [if_neg e]
    by_cases h : s ∈ (names zs).take k
    · rw [if_pos h, if_pos (by simp [h])]
    · rw [if_neg h, if_neg (by simp [h, e])]
theorem rows3_zero (zs : List Nx) (k : Nat) (x : Nx) : rows3 zs k x 0 = rows2 zs k := by funext d; unfold rows3; simp
theorem rows3_next {zs : List Nx} {k j : Nat} {x : Nx} {d : ByteArray} (hj : j < (once x.deps).length) (hd : d = (once x.deps)[j]) : (fun y => if y = d then rows3 zs k x j d ++ [x.nm] else rows3 zs k x j y) = rows3 zs k x (j + 1) := by
  funext y
  have hmem := take_succ_mem hj (n := y)
  by_cases e : y = d
  · subst e
    rw [if_pos rfl]
    have h1 : y ∉ (once x.deps).take j := by rw [hd]; exact nodup_take_not (once_nodup _) hj
    have h2 : y ∈ (once x.deps).take (j + 1) := hmem.2 (.inl hd)
    unfold rows3
    rw [if_neg h1, if_pos h2]
  · rw [if_neg e]
    unfold rows3
    by_cases h : y ∈ (once x.deps).take j
    · rw [if_pos h, if_pos (hmem.2 (.inr h))]
    · rw [if_neg h, if_neg (fun h2 => (hmem.1 h2).elim (fun h3 => e (h3.trans hd.symm)) h)]
theorem rows3_end {zs : List Nx} {k : Nat} {x : Nx} (hk : k < zs.length) (hx : x = zs[k]) : rows3 zs k x (once x.deps).length = rows2 zs (k + 1) := by
  funext d
  unfold rows3 rows2 usersOf nds
  rw [List.take_of_length_le (Nat.le_refl _), List.take_succ_eq_append_getElem hk, List.map_append, List.filter_append, List.map_append, ← hx]
  by_cases h : d ∈ x.deps
  · rw [if_pos (once_mem.2 h)]
    congr 1
    simp [Nx.nd, h]
  · rw [if_neg (fun h2 => h (once_mem.1 h2))]
    simp [Nx.nd, h]
theorem cnt2_end (zs : List Nx) : WF (names zs) (cnt2 zs zs.length) = WF (names zs) (cntT zs []) := WF_congr fun s hs => by
  unfold cnt2 cntT
  rw [List.take_of_length_le (by unfold names; simp), if_pos hs, miss_nil]
theorem WF_inv {ns : List ByteArray} {c : ByteArray → Nat} (s : ByteArray) (v : Value) (h : WF ns c s = some v) : v = .int .i64 (c s : Nat) := by
  unfold WF at h
  split at h
  · cases h; rfl
  · cases h
theorem WF_mem {ns : List ByteArray} {c : ByteArray → Nat} {s : ByteArray} {v : Value} (h : WF ns c s = some v) : s ∈ ns := by
  unfold WF at h
  split at h
  · assumption
  · cases h
/-- The heap's members while the counts are ranged over. -/
def Hp4 (zs : List Nx) (left : ByteArray → Bool) (hp : List ByteArray) : Prop := hp.Nodup ∧ ∀ s, s ∈ hp ↔ s ∈ names zs ∧ cntT zs [] s = 0 ∧ left s = false
theorem Hp4.len {zs : List Nx} {left : ByteArray → Bool} {hp : List ByteArray} (h : Hp4 zs left hp) : hp.length ≤ zs.length := by
  have := subset_len (m := names zs) h.1 (fun s hs => ((h.2 s).1 hs).1)
  unfold names at this
  simpa using this
theorem Hp4.push {zs : List Nx} {left : ByteArray → Bool} {hp : List ByteArray} {x : ByteArray} (h : Hp4 zs left hp) (hx : x ∈ names zs) (h0 : cntT zs [] x = 0) (hl : left x = true) : Hp4 zs (fun z => left z && !decide (z = x)) (x :: hp) := by
  refine ⟨List.nodup_cons.2 ⟨fun hm => absurd ((h.2 x).1 hm).2.2 (by rw [hl]; simp), h.1⟩, fun s => ?_⟩
  by_cases e : s = x
  · subst e; simp [hx, h0]
  · simp only [List.mem_cons, e, false_or, h.2 s]; simp [e]
theorem Hp4.skip {zs : List Nx} {left : ByteArray → Bool} {hp : List ByteArray} {x : ByteArray} (h : Hp4 zs left hp) (h0 : cntT zs [] x ≠ 0) : Hp4 zs (fun z => left z && !decide (z = x)) hp := by
  refine ⟨h.1, fun s => ?_⟩
  rw [h.2 s]
  by_cases e : s = x
  · subst e; simp [h0]
  · simp [e]
theorem rows3_len (zs : List Nx) (k : Nat) (x : Nx) (j : Nat) (d : ByteArray) : (rows3 zs k x j d).length ≤ zs.length + 1 := by
  have h : (rows2 zs k d).length ≤ zs.length := by
    unfold rows2 usersOf nds
    rw [List.length_map]
    refine Nat.le_trans (List.length_filter_le _ _) ?_
    rw [List.length_map, List.length_take]
    omega
  unfold rows3
  split
  · simp; omega
  · omega
theorem c2_zero (zs : List Nx) : WF (names zs) (cnt2 zs 0) = WF (names zs) (fun _ => 0) := WF_congr fun s _ => by unfold cnt2; simp
theorem rows2_zero (zs : List Nx) : rows2 zs 0 = fun _ => [] := by funext d; unfold rows2 usersOf nds; simp
set_option maxRecDepth 100000 in
set_option maxHeartbeats 4000000 in
theorem linear_c (A : Option Addr) (c : Nat) (zs : List Nx) (w : World) (hS : SetAt w A c zs) (hz : zs.length ≤ 1000) (hd : ∀ z ∈ zs, z.deps.length ≤ 1000) :
    Calls Tryd.prog 7 #[.slice A zs.length c] w (LinPost zs w) := by
  have hmm := @run_makeMap Tryd.prog
  have K := keyStr Tryd.underlying9
  have zI : ∀ w, (zeroValue 3).run Tryd.prog w = .ok (.int .i64 0) w := fun _ => by kernel_rfl
  have zS : ∀ w, (zeroValue 25).run Tryd.prog w = .ok (.slice none 0 0) w := fun _ => by kernel_rfl
  obtain ⟨n, hn⟩ : ∃ n, zs.length = n := ⟨_, rfl⟩
  rw [hn]
  have hnn := Lib.hid hn
  have hn1 : n ≤ 1000 := by omega
  have hSS := Lib.hid hS
  have hdd := Lib.hid hd
  clear hS hn hd
  go_enter Tryd.func7, Tryd.ntmps7
  go_wp2_with fail
  go_loopw [25] (fun iv wr => ∃ k : Nat, k ≤ n ∧ iv = .int .i64 k ∧ ((names zs).take k).Nodup ∧ GMap slit wr Tryd.prog 9 w.heap.size k (M1 ((names zs).take k)) ∧ Below w.heap.size w wr) (fun iv _ => n - (intOf iv).toNat)
  case atStart =>
    exact ⟨0, Nat.zero_le _, rfl, .nil, by rw [List.take_zero, M1_nil]; exact GMap.made _ _ _ _, (Below.refl _ _).alloc (Nat.le_refl _) _⟩
  case round =>
    obtain ⟨k, hk, rfl, hnd, hM, hB⟩ := hrel
    by_cases hlt : k < n
    · obtain ⟨b, o, rfl, c0, c1, c2, c3⟩ := (hSS.out.below hB).get k (by rw [hnn.out]; exact hlt)
      have hkz : k < zs.length := by rw [hnn.out]; exact hlt
      obtain ⟨x, hx⟩ : ∃ x, x = zs[k] := ⟨_, rfl⟩
      rw [← hx] at c0 c1 c2 c3
      have hsz := (hSS.out.2.2.2 x (by rw [hx]; exact List.getElem_mem _)).1
      have hkey : keyOf Tryd.prog 9 (.string x.nm) = some (slit x.nm) := keyStr_mk Tryd.underlying9 (by unfold maxLen; omega)
      have htk := names_take zs k hkz
      rw [← hx] at htk
      have hM' := Lib.hid (show ∀ o, GMap slit (wr.alloc o) Tryd.prog 9 w.heap.size k (M1 ((names zs).take k)) from fun o => hM.same (heap_alloc_lt _ _ _ hM.lt))
      have hkn : k < maxLen := by unfold maxLen; omega
      have hndH := Lib.hid hnd
      have hBs := Lib.hid hB.size
      have hBH := Lib.hid (show ∀ o, Below w.heap.size w (wr.alloc o) from fun o => hB.alloc hB.size o)
      replace htk := Lib.hid htk
      replace hx := Lib.hid hx
      have hMl := Lib.hid hM.lt
      clear hM hnd hB
      by_cases hin : x.nm ∈ (names zs).take k
      · have h0 : M1 ((names zs).take k) x.nm = some (.int .i64 0) := by unfold M1; rw [if_pos hin]
        replace h0 := Lib.hid h0
        replace hin := Lib.hid hin
        go_wp2_with (at_lookup; refine wpList_lookup_ok_g K rfl _ _ 46 rfl 3 Tryd.underlying46 (zI _) rfl (hM'.out _) x.nm rfl hkey ?_; simp only [h0.out, Option.getD_some, Option.isSome_some])
        go_ret2
        exact ⟨hBH.out _, .inl ⟨nodup_dup htk.out hin.out, rfl⟩⟩
      · have h0 : M1 ((names zs).take k) x.nm = none := by unfold M1; rw [if_neg hin]
        replace h0 := Lib.hid h0
        replace hin := Lib.hid hin
        go_wp2_with (first | (at_lookup; refine wpList_lookup_ok_g K rfl _ _ 46 rfl 3 Tryd.underlying46 (zI _) rfl (hM'.out _) x.nm rfl hkey ?_; simp only [h0.out, Option.getD_none, Option.isSome_none]) | (at_mapUpdate; refine wpList_update_g K rfl _ _ _ 46 rfl 3 Tryd.underlying46 rfl (hM'.out _) hkn x.nm (.int .i64 0) rfl rfl hkey ?_; intro w1 hM1 hturn; replace hM1 := Lib.hid hM1; replace hturn := Lib.hid hturn))
        go_roundw
        case rel =>
          refine ⟨k + 1, by omega, by go_num, ?_, ?_, below_turn (hBH.out _) (Nat.le_refl _) (hBH.out _).size hturn.out⟩
          · rw [htk.out]; exact nodup_snoc hndH.out hin.out
          · rw [htk.out, ← M1_snoc]; exact hM1.out
        case measure => simp [intOf]; omega
    · obtain rfl : n = k := by omega
      rw [List.take_of_length_le (by rw [← hnn.out]; unfold names; simp)] at hnd hM
      rw [M1_WF] at hM
      have hndH := Lib.hid hnd
      have hU := Users.made w.heap.size (fun _ => False) wr
      have hM0 := hM.same (heap_alloc_lt wr (.map #[] 0) _ hM.lt)
      have hB0 := hB.alloc hB.size (.map #[] 0)
      have hUs := hB.size
      obtain ⟨U, hUe⟩ : ∃ U, U = wr.heap.size := ⟨_, rfl⟩
      have hUw : U ≠ w.heap.size := by have := hM.lt; omega
      obtain ⟨wU, hwU⟩ : ∃ wU, wU = wr.alloc (.map #[] 0) := ⟨_, rfl⟩
      rw [← hUe, ← hwU] at hU
      rw [← hwU] at hM0 hB0
      rw [← hUe] at hUs
      have hUeH := Lib.hid hUe
      have hwUH := Lib.hid hwU
      clear hUe hwU hM hB hnd
      go_wp2_with fail
      rw [← hUeH.out, ← hwUH.out]

      go_loopw [45] (fun iv wr => ∃ k m1 m2 : Nat, k ≤ n ∧ iv = .int .i64 k ∧ m1 ≤ n + 1000 * k ∧ m2 ≤ 1000 * k ∧ GMap slit wr Tryd.prog 9 w.heap.size m1 (WF (names zs) (cnt2 zs k)) ∧ Users w.heap.size (fun _ => False) wr U m2 (rows2 zs k) ∧ Below w.heap.size w wr) (fun iv _ => n - (intOf iv).toNat)
      case atStart =>
        refine ⟨0, n, 0, Nat.zero_le _, rfl, by omega, Nat.le_refl _, ?_, ?_, hB0⟩
        · rw [c2_zero]; exact hM0
        · rw [rows2_zero]; exact hU
      case round =>
        clear hU hM0 hB0
        obtain ⟨k, m1, m2, hk, rfl, hm1, hm2, hM, hU, hB⟩ := hrel
        by_cases hlt : k < n
        · obtain ⟨b, o, rfl, c0, c1, c2, c3⟩ := (hSS.out.below hB).get k (by rw [hnn.out]; exact hlt)
          have hkz : k < zs.length := by rw [hnn.out]; exact hlt
          obtain ⟨x, hx⟩ : ∃ x, x = zs[k] := ⟨_, rfl⟩
          rw [← hx] at c0 c1 c2 c3
          have hxz : x ∈ zs := by rw [hx]; exact List.getElem_mem _
          have hT := ((hSS.out.below hB).2.2.2 x hxz).2
          have hsz := (hSS.out.2.2.2 x hxz).1
          have hdl := hdd.out x hxz
          have htk := names_take zs k hkz
          rw [← hx] at htk
          have hxn : x.nm ∈ names zs := List.mem_map.2 ⟨x, hxz, rfl⟩
          have hxk : x.nm ∉ (names zs).take k := fun hin => nodup_dup htk hin hndH.out
          replace htk := Lib.hid htk
          replace hxn := Lib.hid hxn
          replace hxk := Lib.hid hxk
          have hTA := Lib.hid (show ∀ o, TAt (wr.alloc o) x.D x.dc x.deps from fun o => hT.below ((Below.refl _ _).alloc (Nat.le_refl _) _))
          replace hx := Lib.hid hx
          replace hM := Lib.hid hM
          replace hU := Lib.hid hU
          replace hB := Lib.hid hB
          replace hdl := Lib.hid hdl
          clear hT
          go_wp2_with fail
          refine (clone_c (hTA.out _) (by have := hdl.out; omega)).mono ?_
          rintro e w1 ⟨v1, rfl, hr1, hb1⟩
          replace hr1 := Lib.hid hr1
          replace hb1 := Lib.hid hb1
          go_wp2_with fail
          refine (sort_c hr1.out (by have := hdl.out; omega)).mono ?_
          rintro e w2 ⟨rfl, hr2, hg2⟩
          replace hr2 := Lib.hid hr2
          replace hg2 := Lib.hid hg2
          go_wp2_with fail
          refine (compact_c hr2.out (by unfold sortL; rw [List.length_mergeSort, toL_len]; have := hdl.out; omega)).mono ?_
          rintro e w3 ⟨v3, rfl, hr3, hg3, hb3⟩
          rw [show ofL (Lib.compact (sortL (toL x.deps))) = once x.deps from rfl] at hr3
          obtain ⟨L, hL⟩ : ∃ L, (once x.deps).length = L := ⟨_, rfl⟩
          obtain ⟨A3, cap3, rfl⟩ := hr3.shape
          have hLb : L ≤ 1000 := by have := once_le x.deps; have := hdl.out; omega
          rw [hL] at hr3 hb3
          replace hr3 := Lib.hid hr3
          replace hg3 := Lib.hid hg3
          replace hb3 := Lib.hid hb3
          have hLH := Lib.hid hL
          clear hL
          have hv1 : ∀ q, v1.ownBlock = some q → (wr.alloc (.cells x.cells 30)).heap.size ≤ q := fun q hq => (hr1.out.lt q hq).1
          have hbA := below_grew (below_grew hb1.out hb1.out.size hg2.out hv1) (Nat.le_trans hb1.out.size hg2.out.1) hg3.out hv1
          have hXs : wr.heap.size < (wr.alloc (.cells x.cells 30)).heap.size := by rw [St.size_alloc]; omega
          have hold : ∀ q, q < wr.heap.size → w3.heap[q]? = wr.heap[q]? := fun q hq => (hbA.block q (Nat.lt_trans hq hXs)).trans (heap_alloc_lt _ _ _ hq)
          have h3 : In3 (names zs) w U wr.heap.size (wr.alloc (.cells x.cells 30)).heap.size (.slice A3 L cap3) (once x.deps) x (cnt3 zs k x 0) (rows3 zs k x 0) m1 m2 w3 := by
            rw [rows3_zero]
            obtain ⟨f, hf, _⟩ := hU.out
            refine ⟨?_, hU.out.keep (hold _ hf.lt) (fun q cur _ hc _ => hold _ (heap_lt hc)) (fun q hq => .inr ?_), ?_, ?_, hr3.out, hUs, hB.out.size⟩
            · rw [c3_zero hxk.out]; exact hM.out.same (hold _ hM.out.lt)
            · exact Nat.le_trans (Nat.le_of_lt hXs) (hb3.out q hq)
            · exact (hB.out.alloc hB.out.size _).trans (hbA.mono (Nat.le_trans hB.out.size (Nat.le_of_lt hXs)))
            · exact (hbA.block _ hXs).trans (heap_alloc_at _ _)
          have h3H := Lib.hid h3
          clear h3 hbA hv1 hold hXs
          rw [hLH.out]
          go_wp2_with fail
          obtain ⟨wo, rfl⟩ : ∃ wo : World, wo = wr := ⟨_, rfl⟩
          go_loopw [58] (fun jv ws => ∃ j p1 p2 : Nat, j ≤ L ∧ jv = .int .i64 j ∧ p1 ≤ m1 + j ∧ p2 ≤ m2 + j ∧ In3 (names zs) w U wo.heap.size (wo.alloc (.cells x.cells 30)).heap.size (.slice A3 L cap3) (once x.deps) x (cnt3 zs k x j) (rows3 zs k x j) p1 p2 ws) (fun jv _ => L - (intOf jv).toNat)
          case atStart => exact ⟨0, m1, m2, Nat.zero_le _, rfl, Nat.le_refl _, Nat.le_refl _, h3H.out⟩
          case round =>
            obtain ⟨j, p1, p2, hj, rfl, hp1, hp2, hI⟩ := hrel
            by_cases hjl : j < L
            · obtain ⟨g3, rfl, hqq⟩ := hI.row.addr (by omega)
              clear hqq
              have hjo : j < (once x.deps).length := by rw [hLH.out]; exact hjl
              have cd := hI.row.at j hjo
              obtain ⟨d, hde⟩ : ∃ d, d = (once x.deps).getD j ByteArray.empty := ⟨_, rfl⟩
              rw [← hde] at cd
              have hdg : d = (once x.deps)[j] := by rw [hde, List.getD_eq_getElem?_getD, List.getElem?_eq_getElem hjo]; rfl
              have hdm : d ∈ x.deps := once_mem.1 (by rw [hdg]; exact List.getElem_mem _)
              have hkd : keyOf Tryd.prog 9 (.string d) = some (slit d) := keyStr_mk Tryd.underlying9 (by have := (hTA.out (.map #[] 0)).2.2.1 d hdm; unfold maxLen; omega)
              have hkx : keyOf Tryd.prog 9 (.string x.nm) = some (slit x.nm) := keyStr_mk Tryd.underlying9 (by unfold maxLen; omega)
              have cX := hI.cell
              obtain ⟨f, hf, f2, f3, f4⟩ := hI.users
              obtain ⟨vd, hvd⟩ : ∃ vd, vd = (f d).getD (.slice none 0 0) := ⟨_, rfl⟩
              have hrd := f2 d
              rw [← hvd] at hrd
              have hrl : (rows3 zs k x j d).length ≤ 100000 := by have := rows3_len zs k x j d; have := hnn.out; omega
              have hwl : WF (names zs) (cnt3 zs k x j) x.nm = some (.int .i64 (j : Nat)) := by rw [WF_in hxn.out]; unfold cnt3; rw [if_pos rfl]
              have hp2n : p2 < maxLen := by unfold maxLen; omega
              have hp1n : p1 < maxLen := by unfold maxLen; omega
              have hjb : (j : Int) ≤ 1000000 := by omega
              have hj0 : (0 : Int) ≤ (j : Int) + 1 := by omega
              have hnx : ∀ (g q cap : Nat) (w4 w5 : World), SRow w.heap.size w4 (.slice (some ⟨g, 0, none⟩) q cap) (rows3 zs k x j d ++ [x.nm]) → Grew vd wr w4 → (vd.ownBlock = some g ∨ wr.heap.size < g) → GMap slit w5 Tryd.prog 9 U (p2 + 1) (upd f d (.slice (some ⟨g, 0, none⟩) q cap)) → w4.mapTurned w5 U → In3 (names zs) w U wo.heap.size (wo.alloc (.cells x.cells 30)).heap.size (.slice (some ⟨g3, 0, none⟩) L cap3) (once x.deps) x (cnt3 zs k x j) (rows3 zs k x (j + 1)) p1 (p2 + 1) w5 := by
                intro g q cap w4 w5 a1 a2 a3 a4 a5
                rw [hvd] at a2 a3
                have := hI.more hf f2 f3 f4 a1 a2 a3 a4 a5 hUw
                rw [rows3_next hjo hdg] at this
                exact this
              have hfo : ∀ w4, Grew vd wr w4 → GMap slit w4 Tryd.prog 9 U p2 f := fun w4 hg4 => by
                refine hf.same (hg4.2.2.2.2 U hf.lt (fun e => ?_))
                obtain ⟨cur, hc⟩ := hrd.cells U e.symm
                exact map_ne hc hf.obj rfl
              have hnxH := Lib.hid hnx
              have hfoH := Lib.hid hfo
              have hfH := Lib.hid hf
              have hIH := Lib.hid hI
              have hrdH := Lib.hid hrd
              have hvdH := Lib.hid hvd
              have hwlH := Lib.hid hwl
              have hBs := Lib.hid hI.below.size
              clear hnx hfo hf f2 f3 f4 hI hrd hvd hdg hdm hde hwl
              go_wp2_with (first
                | (at_lookup; refine wpList_lookup_g K rfl _ _ 49 rfl 25 Tryd.underlying49 (zS _) rfl hfH.out d rfl hkd ?_; rw [← hvdH.out])
                | (at_builtin; refine str_app rfl _ _ 25 rfl Tryd.underlying25 rfl _ _ rfl hrdH.out rfl (by omega) hBs.out ?_; intro g cap w4 hr4 hg4 hl4; replace hr4 := Lib.hid hr4; replace hg4 := Lib.hid hg4; replace hl4 := Lib.hid hl4)
                | (at_mapUpdate; refine wpList_update_g K rfl _ _ _ 49 rfl 25 Tryd.underlying49 rfl (hfoH.out _ hg4.out) hp2n d (.slice (some ⟨g, 0, none⟩) _ cap) rfl rfl hkd ?_; intro w5 hM5 ht5; have hI5 := hnxH.out _ _ _ _ _ hr4.out hg4.out hl4.out hM5 ht5; have c5 := hI5.cell; replace hI5 := Lib.hid hI5; clear hM5 ht5)
                | (at_lookup; refine wpList_lookup_g K rfl _ _ 46 rfl 3 Tryd.underlying46 (zI _) rfl hI5.out.wait x.nm rfl hkx ?_; simp only [hwlH.out, Option.getD_some])
                | (at_mapUpdate; refine wpList_update_g K rfl _ _ _ 46 rfl 3 Tryd.underlying46 rfl hI5.out.wait hp1n x.nm (.int .i64 ((j : Int) + 1)) rfl rfl hkx ?_; intro w6 hM6 ht6; replace hM6 := Lib.hid hM6; replace ht6 := Lib.hid ht6))
              go_roundw
              case rel =>
                have hM7 := hM6.out
                rw [show ((j : Int) + 1) = ((j + 1 : Nat) : Int) from by omega, c3_next hxn.out] at hM7
                exact ⟨j + 1, p1 + 1, p2 + 1, by omega, by go_num, by omega, by omega, hI5.out.count hM7 ht6.out hUw⟩
              case measure => simp [intOf]; omega
            · obtain rfl : L = j := by omega
              replace hI := Lib.hid hI
              go_wp2_with fail
              go_roundw
              case rel =>
                have hc := c3_end hndH.out hxz htk.out
                rw [hLH.out] at hc
                have hr := rows3_end hkz hx.out
                rw [hLH.out] at hr
                have hM := hI.out.wait
                have hU := hI.out.users
                rw [hc] at hM
                rw [hr] at hU
                exact ⟨k + 1, p1, p2, by omega, by go_num, by omega, by omega, hM, hU.keep rfl (fun _ _ _ _ _ => rfl) (fun _ h => absurd h id), hI.out.below⟩
              case measure => simp [intOf]; omega
        · obtain rfl : n = k := by omega
          rw [← hnn.out, cnt2_end] at hM
          have hU5 : Users w.heap.size (fun _ => False) wr U m2 (usersOf (nds zs)) := by
            have e : rows2 zs n = usersOf (nds zs) := by funext d; unfold rows2; rw [← hnn.out]; exact cnt2_rows zs d
            rw [e] at hU; exact hU
          have h5 := S5.made hM
          have hobo := hM.obj
          obtain ⟨fU, hfU, hfr⟩ := hU5.row
          have hUat : ∀ W, Tch (fun q => q = w.heap.size) wr W → GMap slit W Tryd.prog 9 U m2 fU ∧ ∀ d, SRow w.heap.size W ((fU d).getD (.slice none 0 0)) (usersOf (nds zs) d) := fun W hT =>
            ⟨hfU.same (hT.block U hfU.lt hUw), fun d => (hfr d).same fun q hq => hT.block q ((hfr d).lt q hq).2 (by obtain ⟨cur, hc⟩ := (hfr d).cells q hq; exact map_ne hc hobo)⟩
          have hUatH := Lib.hid hUat
          have hBat : ∀ W, Tch (fun q => q = w.heap.size) wr W → Below w.heap.size w W := fun W hT => ⟨hT.os.trans hB.os, hT.tape.trans hB.tape, hT.output.trans hB.output, Nat.le_trans hB.size hT.size, fun q hq => (hT.block q (Nat.lt_of_lt_of_le hq hB.size) (by omega)).trans (hB.block q hq)⟩
          have hBatH := Lib.hid hBat
          clear hobo hfU hfr hUat hBat
          have hBH := Lib.hid hB
          have h5H := Lib.hid h5
          obtain ⟨R, hR⟩ : ∃ R, R = wr.heap.size + 1 := ⟨_, rfl⟩
          replace hR := Lib.hid hR
          clear hM hU hU5 hB h5
          go_wp2_with (at_range; refine wpList_range_g K rfl _ 46 rfl 3 Tryd.underlying46 rfl h5H.out.wait ?_; intro w6 cnt hrg hgr hsz6; replace hrg := Lib.hid hrg; replace hgr := Lib.hid hgr; replace hsz6 := Lib.hid hsz6)
          have hre : ((wr.alloc (.cells #[] 9)).alloc (.cells #[.slice (some ⟨wr.heap.size, 0, none⟩) 0 0] 53)).heap.size = wr.heap.size + 2 := by rw [St.size_alloc, St.size_alloc]
          have hrg6 := hrg.out
          rw [hre] at hrg6
          have h56 := h5H.out.later hgr.out
          have hrg6H := Lib.hid hrg6
          have h56H := Lib.hid h56
          clear hrg6 h56
          go_frame
          rw [hre]
          obtain ⟨wo, rfl⟩ : ∃ wo : World, wo = wr := ⟨_, rfl⟩
          clear hre
          go_loopw [16] (fun _ wr => ∃ left cnt v hp, GRange slit wr Tryd.prog 9 w.heap.size (wo.heap.size + 2) m1 (WF (names zs) (cntT zs [])) left cnt ∧ S5 (names zs) w wo (wo.heap.size + 1) v hp (cntT zs []) m1 wr ∧ Hp4 zs left hp) (fun _ wr => wr.rangeLeft w.heap.size (wo.heap.size + 2))
          case atStart => exact ⟨_, _, _, _, hrg6H.out, h56H.out, .nil, fun s => by
            constructor
            · intro h; cases h
            · rintro ⟨h1, _, h2⟩; simp only [WF_in h1] at h2; cases h2⟩
          case round =>
            obtain ⟨left, cnt4, v4, hp4, hrg4, h54, hh4⟩ := hrel
            have hrgH := Lib.hid hrg4
            have h5r := Lib.hid h54
            have hhr := Lib.hid hh4
            clear hrg4 h54 hh4
            go_wp2_with (at_next; refine wpList_next_gv K rfl _ rfl (wo.heap.size + 2) _ left rfl hrgH.out (fun s => .int .i64 (cntT zs [] s : Nat)) (fun s v h => WF_inv s v h) ?_ ?_)
            · intro _ hl0
              have hgr5 : Greedy ltB (nds zs) [] := .nil
              have hrn : ∀ s, s ∈ hp4 ↔ RN (nds zs) [] s := fun s => by
                rw [hhr.out.2 s, rn_nil hndH.out]
                exact ⟨fun h => ⟨h.1, h.2.1⟩, fun h => ⟨h.1, h.2, hl0 s⟩⟩
              have hl5 : LRow wo v4 (.slice none 0 0) [] wr := ⟨SRow.nil _ _, fun q hq => by cases hq⟩
              have hrnH := Lib.hid hrn
              have hlH := Lib.hid hl5
              clear hl0 hrn hl5
              go_wp2_with fail
              go_loopg [18] (n + 1) (fun g lv wr => ∃ told v hp p1, g = n + 1 - told.length ∧ told.length ≤ n ∧ p1 ≤ m1 + told.length * 1000 ∧ S5 (names zs) w wo (wo.heap.size + 1) v hp (cntT zs told) p1 wr ∧ Greedy ltB (nds zs) told ∧ hp.Nodup ∧ (∀ s, s ∈ hp ↔ RN (nds zs) told s) ∧ LRow wo v lv told wr)
              case atStart => exact ⟨[], v4, hp4, m1, rfl, Nat.zero_le _, Nat.le_refl _, h5r.out, hgr5, hhr.out.1, hrnH.out, hlH.out⟩
              case round =>
                clear hgr5
                obtain ⟨told, v5, hp5, p5, rfl, htl, hp5l, h55, hgd, hnd5, hrn5, hlr⟩ := hrel
                have hlenz : hp5.length ≤ zs.length := by
                  have := subset_len (m := names zs) hnd5 (fun s hs => rn_names ((hrn5 s).1 hs))
                  unfold names at this
                  simpa using this
                have cR : wr.cell? ⟨wo.heap.size + 1, 0, none⟩ = some v5 := cell_of h55.heap.own 0
                obtain ⟨A5, m5, cap5, rfl, hm5⟩ : ∃ A m cap, v5 = .slice A m cap ∧ m = hp5.length := by
                  obtain ⟨lh, _, hpm, hAt⟩ := h55.heap
                  obtain ⟨A, cap, e⟩ := hAt.2.1.shape
                  exact ⟨A, _, cap, e, hpm.length_eq⟩
                obtain ⟨Al, cl, rfl⟩ := hlr.1.shape
                have h55H := Lib.hid h55
                have hgdH := Lib.hid hgd
                have hrn5H := Lib.hid hrn5
                have hlrH := Lib.hid hlr
                have hndp := Lib.hid hnd5
                have hm5H := Lib.hid hm5
                clear h55 hgd hrn5 hlr hnd5
                by_cases h0 : hp5.length = 0
                · have hst : Stuck (nds zs) told := fun s hr => by
                    have := (hrn5H.out s).2 hr
                    rw [List.eq_nil_of_length_eq_zero h0] at this
                    cases this
                  have hml : (m5 : Int) ≤ 0 := by omega
                  have hstH := Lib.hid hst
                  clear hst hm5 h0
                  by_cases htn : told.length < n
                  · have htn' : (told.length : Int) < (n : Int) := by omega
                    go_wp2_with fail
                    refine (len_c _ _ _ _).mono ?_
                    rintro e w2 ⟨rfl, rfl⟩
                    go_wp2_with fail
                    go_ret2
                    exact ⟨hBatH.out _ h55H.out.tch, .inr ⟨hndH.out, told, ⟨hgdH.out, hstH.out⟩, .inl ⟨by rw [hnn.out]; exact htn, rfl⟩⟩⟩
                  · have htn' : (n : Int) ≤ (told.length : Int) := by omega
                    go_wp2_with fail
                    refine (len_c _ _ _ _).mono ?_
                    rintro e w2 ⟨rfl, rfl⟩
                    go_wp2_with fail
                    go_ret2
                    exact ⟨hBatH.out _ h55H.out.tch, .inr ⟨hndH.out, told, ⟨hgdH.out, hstH.out⟩, .inr ⟨_, by rw [hnn.out]; omega, rfl, hlrH.out.1.base (fun q hq => Nat.le_trans (Nat.le_of_lt h55H.out.old) (hlrH.out.1.lt q hq).1)⟩⟩⟩
                · have hml : (0 : Int) < (m5 : Int) := by omega
                  have hpl : 0 < hp5.length := by omega
                  have hpc := Lib.hid (hpop_c h55H.out.heap (by have := hnn.out; omega) hpl)
                  have hta : ∀ (w : World) (s : ByteArray), (Instr.typeAssert (.iface 9 (.string s)) 20 9 false).run Tryd.prog w = .ok (.string s) w := fun _ _ => by kernel_rfl
                  clear hm5 h0
                  go_wp2_with fail
                  refine (len_c _ _ _ _).mono ?_
                  rintro e w2 ⟨rfl, rfl⟩
                  go_wp2_with fail
                  refine hpc.out.mono ?_
                  rintro e w2 ⟨s, m', v6, rfl, hpm6, hmin6, hh6, hg6⟩
                  have hsin : s ∈ hp5 := hpm6.mem_iff.1 (by simp)
                  have hlst : IsLeast ltB (nds zs) told s := least_of hrn5H.out hsin hmin6
                  have hsnt : s ∉ told := by obtain ⟨x, _, e, hr, _⟩ := hlst.1; exact e ▸ hr
                  have hsz6 := h55H.out.push hh6 hg6
                  have hl6 := hlrH.out.push h55H.out.heap hg6
                  have hks : keyOf Tryd.prog 9 (.string s) = some (slit s) := by
                    obtain ⟨z, hz1, rfl⟩ := name_nx (rn_names hlst.1)
                    exact keyStr_mk Tryd.underlying9 (by have := (hSS.out.2.2.2 z hz1).1; unfold maxLen; omega)
                  have hs6H := Lib.hid hsz6
                  have hl6H := Lib.hid hl6
                  have hh6H := Lib.hid hh6
                  have hlstH := Lib.hid hlst
                  have hsntH := Lib.hid hsnt
                  have hpm6H := Lib.hid hpm6
                  have htb : told.length ≤ 1000000 := by omega
                  have hw2s := Lib.hid hh6.base
                  clear hsin hlst hsnt hsz6 hl6 hh6 hg6 hmin6 hpm6
                  obtain ⟨us, hus⟩ : ∃ us, us = usersOf (nds zs) s := ⟨_, rfl⟩
                  have husl : us.length ≤ 1000 := by have := users_len zs s; have := hnn.out; rw [hus]; omega
                  have husH := Lib.hid hus
                  clear hus
                  obtain ⟨vU, hvU⟩ : ∃ vU, vU = (fU s).getD (.slice none 0 0) := ⟨_, rfl⟩
                  obtain ⟨AU, cU, hAU⟩ : ∃ A c, vU = .slice A us.length c := by rw [hvU, husH.out]; exact ((hUatH.out w2 hs6H.out.tch).2 s).shape
                  subst hAU
                  have hvUH := Lib.hid hvU
                  clear hvU
                  go_wp2_with (first
                    | (at_builtin; refine str_app rfl _ _ 25 rfl Tryd.underlying25 rfl _ _ rfl hl6H.out.1 rfl htb hw2s.out ?_; intro g3 cap3 w3 hr3 hg3 hl3; have h7 := hs6H.out.grew hl6H.out.1 hl6H.out.2 hg3; have hl7 := hl6H.out.app hh6H.out hr3 hl3; replace h7 := Lib.hid h7; replace hl7 := Lib.hid hl7; clear hr3 hg3 hl3)
                    | (at_lookup; refine wpList_lookup_g K rfl _ _ 49 rfl 25 Tryd.underlying49 (zS _) rfl (hUatH.out _ h7.out.tch).1 s rfl hks ?_; rw [← hvUH.out]))
                  have hsz6b : m'.Nodup ∧ (∀ q, q ∈ m' ↔ HpIn needN (nds zs) told s us 0 q) := by
                    have hnd : (s :: m').Nodup := (hpm6H.out.nodup_iff).2 hndp.out
                    obtain ⟨h1, h2⟩ := List.nodup_cons.1 hnd
                    refine ⟨h2, fun q => ?_⟩
                    rw [hpIn_zero, ← hrn5H.out q, ← hpm6H.out.mem_iff]
                    constructor
                    · intro hq; exact ⟨by simp [hq], fun e => h1 (e ▸ hq)⟩
                    · rintro ⟨hq, hne⟩; exact (List.mem_cons.1 hq).resolve_left hne
                  have h6bH := Lib.hid hsz6b
                  clear hsz6b
                  have husn : us.Nodup := by rw [husH.out]; exact users_nodup (by rw [names_nds]; exact hndH.out) s
                  have husnH := Lib.hid husn
                  clear husn
                  obtain ⟨vl3, hvl3⟩ : ∃ v, v = Value.slice (some ⟨g3, 0, none⟩) (told.length + 1) cap3 := ⟨_, rfl⟩
                  rw [← hvl3] at hl7
                  replace hvl3 := Lib.hid hvl3
                  go_loopw [111] (fun jv wr => ∃ j v hp p, j ≤ us.length ∧ jv = .int .i64 ((j : Nat) : Int) ∧ p ≤ p5 + j ∧ S5 (names zs) w wo (wo.heap.size + 1) v hp (cnt6 zs told s us j) p wr ∧ hp.Nodup ∧ (∀ q, q ∈ hp ↔ HpIn needN (nds zs) told s us j q) ∧ LRow wo v vl3 (told ++ [s]) wr) (fun jv _ => us.length - (intOf jv).toNat)
                  case atStart => exact ⟨0, v6, m', p5, Nat.zero_le _, rfl, Nat.le_refl _, by rw [cnt6_zero]; exact h7.out, h6bH.out.1, h6bH.out.2, hl7.out⟩
                  case round =>
                    obtain ⟨j, v8, hp8, p8, hj, rfl, hp8l, h8, hnd8, hin8, hl8⟩ := hrel
                    by_cases hjl : j < us.length
                    · have hu8 := (hUatH.out _ h8.tch).2 s
                      rw [← hvUH.out, ← husH.out] at hu8
                      obtain ⟨gU, rfl, hqq⟩ := hu8.addr (by omega)
                      have cu := hu8.at j hjl
                      obtain ⟨u, hu⟩ : ∃ u, u = us.getD j ByteArray.empty := ⟨_, rfl⟩
                      rw [← hu] at cu
                      have huj : us[j] = u := by rw [hu, List.getD_eq_getElem?_getD, List.getElem?_eq_getElem hjl]; rfl
                      have hum : u ∈ usersOf (nds zs) s := by rw [← husH.out, ← huj]; exact List.getElem_mem _
                      have hun := users_names hum
                      obtain ⟨z, hz1, hz2⟩ := name_nx hun
                      have hku : keyOf Tryd.prog 9 (.string u) = some (slit u) := keyStr_mk Tryd.underlying9 (by have := (hSS.out.2.2.2 z hz1).1; rw [hz2] at this; unfold maxLen; omega)
                      obtain ⟨t, ht⟩ : ∃ t, t = cntT zs told u := ⟨_, rfl⟩
                      obtain ⟨m, hm⟩ : ∃ m, m = cntT zs (told ++ [s]) u := ⟨_, rfl⟩
                      have htm := cnt_dec hndH.out hsntH.out hum
                      rw [← ht, ← hm] at htm
                      have hq : (t : Int) - 1 = (m : Nat) := by omega
                      have hmb : m ≤ 1000 := by
                        rw [hm]; unfold cntT miss
                        refine Nat.le_trans (List.length_filter_le _ _) ?_
                        rw [← hz2, depsOf_nm hndH.out hz1]
                        exact Nat.le_trans (once_le _) (hdd.out z hz1)
                      have htb8 : (t : Int) ≤ 1000000 := by omega
                      have hw8 : WF (names zs) (cnt6 zs told s us j) u = some (.int .i64 (t : Nat)) := by rw [WF_in hun, ← huj, cnt6_at husnH.out hjl, huj, ← ht]
                      have hw9 : WF (names zs) (cnt6 zs told s us (j + 1)) u = some (.int .i64 (m : Nat)) := by rw [WF_in hun, ← huj, cnt6_now hjl, huj, ← hm]
                      have hup : upd (WF (names zs) (cnt6 zs told s us j)) u (.int .i64 (m : Nat)) = WF (names zs) (cnt6 zs told s us (j + 1)) := by
                        have := cnt6_next (zs := zs) (told := told) (s := s) hjl (by rw [huj]; exact hun)
                        rw [huj, ← hm] at this
                        exact this
                      have hp8n : p8 < maxLen := by unfold maxLen; omega
                      have hpb : hp8.length ≤ 100000 := by
                        have := subset_len (m := names zs) hnd8 (fun q hq => by
                          rcases (hin8 q).1 hq with ⟨h, _⟩ | ⟨h, _⟩
                          · exact rn_names h
                          · exact users_names (by rw [← husH.out]; exact List.mem_of_mem_take h))
                        unfold names at this
                        have hh := hnn.out
                        simp at this
                        omega
                      have hnm : ∃ z ∈ nds zs, z.nm = u ∧ miss (told ++ [s]) (needN z) = m := ⟨z.nd, List.mem_map.2 ⟨z, hz1, rfl⟩, hz2, by rw [hm]; unfold cntT needN; rw [← hz2, depsOf_nm hndH.out hz1]; rfl⟩
                      have hnotin : ¬ HpIn needN (nds zs) told s us j u := by
                        have := hpIn_new (need := needN) (set := nds zs) (told := told) (by rw [names_nds]; exact hndH.out) hsntH.out (k := j) (by rw [← husH.out]; exact hjl)
                        simp only [← husH.out] at this
                        rw [huj] at this
                        exact this
                      have h8H := Lib.hid h8
                      have hnd8H := Lib.hid hnd8
                      have hin8H := Lib.hid hin8
                      have hl8H := Lib.hid hl8
                      have hujH := Lib.hid huj
                      have hw8H := Lib.hid hw8
                      have hw9H := Lib.hid hw9
                      have hupH := Lib.hid hup
                      have hnmH := Lib.hid hnm
                      have hnotH := Lib.hid hnotin
                      have hob8 := Lib.hid h8.wait.obj
                      clear h8 hnd8 hin8 hl8 huj hu hum hun hz2 ht hm htm hw8 hw9 hup hnm hnotin hu8 hqq
                      by_cases hm0 : m = 0
                      · have hmB : ((m : Int) == 0) = true := by simp [hm0]
                        replace hm0 := Lib.hid hm0
                        go_wp2_with (first
                          | (at_lookup; have _tok := h8H; refine wpList_lookup_g K rfl _ _ 46 rfl 3 Tryd.underlying46 (zI _) rfl h8H.out.wait u rfl hku ?_; simp only [hw8H.out, Option.getD_some])
                          | (at_mapUpdate; refine wpList_update_g K rfl _ _ _ 46 rfl 3 Tryd.underlying46 rfl h8H.out.wait hp8n u (.int .i64 ((m : Nat) : Int)) rfl rfl hku ?_; intro w4 hM4 ht4; rw [hupH.out] at hM4; have h9 := h8H.out.count hM4 ht4; have hl9 := hl8H.out.count hob8.out ht4; replace h9 := Lib.hid h9; replace hl9 := Lib.hid hl9; clear h8H hM4 ht4)
                          | (at_lookup; refine wpList_lookup_g K rfl _ _ 46 rfl 3 Tryd.underlying46 (zI _) rfl h9.out.wait u rfl hku ?_; simp only [hw9H.out, Option.getD_some]))
                        refine (hpush_c h9.out.heap hpb).mono ?_
                        rintro e w5 ⟨rfl, v9, hh9, hg9⟩
                        replace hh9 := Lib.hid hh9
                        replace hg9 := Lib.hid hg9
                        go_wp2_with fail
                        go_roundw
                        case rel =>
                          refine ⟨j + 1, v9, u :: hp8, p8 + 1, by omega, by go_num, by omega, h9.out.push hh9.out hg9.out, List.nodup_cons.2 ⟨fun h => hnotH.out ((hin8H.out u).1 h), hnd8H.out⟩, fun q => ?_, hl9.out.push h9.out.heap hg9.out⟩
                          obtain ⟨z, hz, hzn, hzm⟩ := hnmH.out
                          rw [hpIn_push (x := z) hjl hz (by rw [hzn]; exact hujH.out.symm) (by rw [hzm]; exact hm0.out), hujH.out, List.mem_cons, hin8H.out q]
                        case measure => simp [intOf]; omega
                      · have hmB : ((m : Int) == 0) = false := by simpa using hm0
                        replace hm0 := Lib.hid hm0
                        go_wp2_with (first
                          | (at_lookup; have _tok := h8H; refine wpList_lookup_g K rfl _ _ 46 rfl 3 Tryd.underlying46 (zI _) rfl h8H.out.wait u rfl hku ?_; simp only [hw8H.out, Option.getD_some])
                          | (at_mapUpdate; refine wpList_update_g K rfl _ _ _ 46 rfl 3 Tryd.underlying46 rfl h8H.out.wait hp8n u (.int .i64 ((m : Nat) : Int)) rfl rfl hku ?_; intro w4 hM4 ht4; rw [hupH.out] at hM4; have h9 := h8H.out.count hM4 ht4; have hl9 := hl8H.out.count hob8.out ht4; replace h9 := Lib.hid h9; replace hl9 := Lib.hid hl9; clear h8H hM4 ht4)
                          | (at_lookup; refine wpList_lookup_g K rfl _ _ 46 rfl 3 Tryd.underlying46 (zI _) rfl h9.out.wait u rfl hku ?_; simp only [hw9H.out, Option.getD_some]))
                        go_roundw
                        case rel =>
                          refine ⟨j + 1, v8, hp8, p8 + 1, by omega, by go_num, by omega, h9.out, hnd8H.out, fun q => ?_, hl9.out⟩
                          obtain ⟨z, hz, hzn, hzm⟩ := hnmH.out
                          rw [hpIn_skip (x := z) (by rw [names_nds]; exact hndH.out) hjl hz (by rw [hzn]; exact hujH.out.symm) (by rw [hzm]; exact hm0.out), hin8H.out q]
                        case measure => simp [intOf]; omega
                    · obtain rfl : j = us.length := by omega
                      have h8H := Lib.hid h8
                      have hin8H := Lib.hid hin8
                      have hl8H := Lib.hid hl8
                      have hnd8H := Lib.hid hnd8
                      clear h8 hin8 hl8 hnd8
                      go_wp2_with fail
                      go_roundg (n + 1 - (told.length + 1))
                      case measure => omega
                      case rel =>
                        have hgd' : Greedy ltB (nds zs) (told ++ [s]) := .snoc _ _ hgdH.out hlstH.out
                        have hle := hgd'.len
                        have hnz : (nds zs).length = zs.length := by unfold nds; simp
                        have h8' := h8H.out
                        have hc := cnt6_end hndH.out told s
                        rw [← husH.out] at hc
                        have hin' : ∀ q, q ∈ hp8 ↔ RN (nds zs) (told ++ [s]) q := fun q => by
                          rw [hin8H.out q, husH.out]
                          exact hpIn_end (fun x _ d => once_mem) hlstH.out.1 (Greedy.deps (by rw [names_nds]; exact hndH.out) hgdH.out) (by rw [names_nds]; exact hndH.out)
                        refine ⟨told ++ [s], v8, hp8, p8, by simp, by have := hnn.out; omega, by simp; omega, ⟨by rw [← hc]; exact h8'.wait, h8'.heap, h8'.tch, h8'.old, h8'.new⟩, hgd', hnd8H.out, hin', ?_⟩
                        have := hl8H.out
                        rw [hvl3.out] at this
                        exact this
            · intro x w1 cnt1 hkx hlx hfx hrg1 hlt1 hg1 hs1 hen
              have hxn := WF_mem hfx
              have h5i := h5r.out.iter hrgH.out (by omega) hg1
              have hlen : hp4.length ≤ 100000 := by have := hhr.out.len; have := hnn.out; omega
              clear hs1
              replace hen : (Instr.entry (.pointer (some ⟨wo.heap.size + 2, 0, none⟩))).run Tryd.prog w1 = .ok (.tuple #[.string x, .int .i64 (cntT zs [] x : Nat)]) w1 := hen
              obtain ⟨q, hq⟩ : ∃ q, q = cntT zs [] x := ⟨_, rfl⟩
              rw [← hq] at hen
              simp only [← hq]
              have hxnH := Lib.hid hxn
              have h5iH := Lib.hid h5i
              have hrg1H := Lib.hid hrg1
              have hg1H := Lib.hid hg1
              have hltH := Lib.hid hlt1
              have hlxH := Lib.hid hlx
              clear hxn h5i hrg1 hg1 hlt1 hlx hfx
              by_cases hc0 : q = 0
              · subst hc0
                have hc0 := Lib.hid hq.symm
                clear hq
                go_wp2_with fail
                refine (hpush_c h5iH.out.heap hlen).mono ?_
                rintro e w2 ⟨rfl, v2, hh2, hg2⟩
                replace hh2 := Lib.hid hh2
                replace hg2 := Lib.hid hg2
                go_wp2_with fail
                go_roundw
                case rel => exact ⟨_, cnt1, v2, x :: hp4, range_push h5iH.out hrg1H.out hg2.out, h5iH.out.push hh2.out hg2.out, hhr.out.push hxnH.out hc0.out hlxH.out⟩
                case measure => rw [(range_push h5iH.out hrg1H.out hg2.out).left_eq, hrgH.out.left_eq]; exact hltH.out
              · have hcb : ((q : Int) == 0) = false := by simpa using hc0
                replace hc0 := Lib.hid (show cntT zs [] x ≠ 0 from hq ▸ hc0)
                clear hq
                go_wp2_with fail
                go_roundw
                case rel => exact ⟨_, cnt1, v4, hp4, hrg1H.out, h5iH.out, hhr.out.skip hc0.out⟩
                case measure => rw [hrg1H.out.left_eq, hrgH.out.left_eq]; exact hltH.out
end Go.Proofs.YtalkhiggapbfjaaDoor.Orp
