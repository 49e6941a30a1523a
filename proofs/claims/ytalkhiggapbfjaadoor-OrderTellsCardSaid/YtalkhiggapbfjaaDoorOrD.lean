/- order.Past: the walk that calls itself. -/
import Derived.Test.YtalkhiggapbfjaaDoorOrC
set_option linter.unusedVariables false
set_option linter.unusedSimpArgs false
namespace Go.Proofs.YtalkhiggapbfjaaDoor.Orp
open Go Go.RowKit Go.Proofs.YtalkhiggapbfjaaDoor.B Go.Proofs.YtalkhiggapbfjaaDoor.St Go.Proofs.YtalkhiggapbfjaaDoor.Mp
open Go.Proofs.YtalkhiggapbfjaaDoor.Hp (ltB le tob ltB_iff)
/-- All that the patches of a name need. -/
def depsAll (zs : List Nx) (s : ByteArray) : List ByteArray := (zs.filter fun z => decide (z.nm = s)).flatMap Nx.deps
theorem depsAll_mem {zs : List Nx} {s d : ByteArray} : d ∈ depsAll zs s ↔ ∃ z ∈ zs, z.nm = s ∧ d ∈ z.deps := by
  unfold depsAll
  rw [List.mem_flatMap]
  constructor
  · rintro ⟨z, hz, hd⟩
    obtain ⟨h1, h2⟩ := List.mem_filter.1 hz
    exact ⟨z, h1, by simpa using h2, hd⟩
  · rintro ⟨z, hz, e, hd⟩
    exact ⟨z, List.mem_filter.2 ⟨hz, by simpa using e⟩, hd⟩
theorem depsAll_len {zs : List Nx} (hd : ∀ z ∈ zs, z.deps.length ≤ 1000) (s : ByteArray) : (depsAll zs s).length ≤ zs.length * 1000 := by
  unfold depsAll
  induction zs with
  | nil => simp
  | cons z zs ih =>
    have h1 := ih (fun x hx => hd x (List.mem_cons_of_mem _ hx))
    have h2 := hd z (List.mem_cons_self ..)
    have h3 : (z :: zs).length * 1000 = zs.length * 1000 + 1000 := Nat.succ_mul _ _
    rw [h3]
    generalize zs.length * 1000 = B at h1 ⊢
    by_cases e : z.nm = s
    · rw [List.filter_cons_of_pos (by simpa using e), List.flatMap_cons, List.length_append]
      omega
    · rw [List.filter_cons_of_neg (by simpa using e)]
      omega
theorem there_names {zs : List Nx} {d : ByteArray} : There (nds zs) d ↔ d ∈ names zs := by
  rw [← names_nds, List.mem_map]; rfl
noncomputable def notin (S : ByteArray → Prop) (s : ByteArray) : Bool := open Classical in decide (¬ S s)
theorem notin_iff {S : ByteArray → Prop} {s : ByteArray} : notin S s = true ↔ ¬ S s := by unfold notin; simp
/-- How many names are not seen. -/
noncomputable def un (zs : List Nx) (S : ByteArray → Prop) : Nat := ((once (names zs)).filter (notin S)).length
theorem un_le {zs : List Nx} {S S' : ByteArray → Prop} (h : ∀ s, S s → S' s) : un zs S' ≤ un zs S := by
  unfold un
  refine subset_len (List.Nodup.sublist List.filter_sublist (once_nodup _)) fun x hx => ?_
  obtain ⟨h1, h2⟩ := List.mem_filter.1 hx
  exact List.mem_filter.2 ⟨h1, notin_iff.2 fun k => notin_iff.1 h2 (h x k)⟩
theorem un_lt {zs : List Nx} {S : ByteArray → Prop} {d : ByteArray} (hd : d ∈ names zs) (hn : ¬ S d) : un zs (fun c => c = d ∨ S c) + 1 ≤ un zs S := by
  refine subset_len (l := d :: (once (names zs)).filter (notin fun c => c = d ∨ S c)) (List.nodup_cons.2 ⟨fun h => notin_iff.1 (List.mem_filter.1 h).2 (.inl rfl), List.Nodup.sublist List.filter_sublist (once_nodup _)⟩) fun x hx => ?_
  rcases List.mem_cons.1 hx with rfl | hx
  · exact List.mem_filter.2 ⟨once_mem.2 hd, notin_iff.2 hn⟩
  · obtain ⟨h1, h2⟩ := List.mem_filter.1 hx
    exact List.mem_filter.2 ⟨h1, notin_iff.2 fun k => notin_iff.1 h2 (.inr k)⟩
theorem un_top (zs : List Nx) (S : ByteArray → Prop) : un zs S ≤ zs.length := by
  have := subset_len (l := (once (names zs)).filter (notin S)) (m := names zs) (List.Nodup.sublist List.filter_sublist (once_nodup _)) (fun x hx => once_mem.1 (List.mem_filter.1 hx).1)
  unfold names at this
  rw [List.length_map] at this
  exact this
theorem look_run {κ : Type} {lit : κ → Lit} {val : κ → Value} {w : World} {P : Program} {k : TypeId} {b n : Nat} {f : κ → Option Value} (B : KeyBy P k κ lit val) (t e : TypeId) (ht : P.underlying t = some (.map k e)) {z : Value} (hz : (zeroValue e).run P w = .ok z w)
    (h : GMap lit w P k b n f) (y : κ) (hkey : keyOf P k (val y) = some (lit y)) : (Instr.lookup t (.map (some b)) (val y) false).run P w = .ok ((f y).getD z) w := by
  obtain ⟨D, hown, hv⟩ := h
  obtain ⟨v, ps, hrun, hR⟩ := hown.lookup B.K ht hz (zd := .held z) (zp := []) rfl hkey
  rw [hrun, held_at hv hR]
/-- A map from names to rows. -/
def DMap (base : Nat) (w : World) (U n : Nat) (S : ByteArray → Prop) (rows : ByteArray → List ByteArray) : Prop :=
  ∃ f, GMap slit w Tryd.prog 9 U n f ∧ (∀ d, (f d).isSome = true ↔ S d) ∧ (∀ d, SRow base w ((f d).getD (.slice none 0 0)) (rows d)) ∧ ∀ d d', d ≠ d' → ∀ k, ((f d).getD (.slice none 0 0)).ownBlock = some k → ((f d').getD (.slice none 0 0)).ownBlock ≠ some k
structure PEnv (zs : List Nx) (base H1 H2 H3 Md Ms : Nat) (w : World) : Prop where
  c1 : w.heap[H1]? = some (.cells #[.map (some Md)] 49 (0, 0))
  c2 : w.heap[H2]? = some (.cells #[.map (some Ms)] 60 (0, 0))
  c3 : w.heap[H3]? = some (.cells #[.func (.func 26) #[] #[.pointer (some ⟨H1, 0, none⟩), .pointer (some ⟨H2, 0, none⟩), .pointer (some ⟨H3, 0, none⟩)]] 61 (0, 0))
  dm : ∃ n, DMap base w Md n (fun d => d ∈ names zs) (depsAll zs)
  ne : Md ≠ Ms
theorem PEnv.keep {zs : List Nx} {base H1 H2 H3 Md Ms : Nat} {w w' : World} (h : PEnv zs base H1 H2 H3 Md Ms w) (hs : ∃ es c, w.heap[Ms]? = some (.map es c)) (hg : w.grownBy w' (some Ms)) : PEnv zs base H1 H2 H3 Md Ms w' := by
  have key : ∀ {k : Nat} {cur : Array Value} {t : TypeId} {fr : Nat × Nat}, w.heap[k]? = some (.cells cur t fr) → w'.heap[k]? = w.heap[k]? := fun {k cur t fr} hk => hg.block k (heap_lt hk) (fun e => map_ne hk hs (Option.some.inj e))
  obtain ⟨c1, c2, c3, ⟨n, f, m1, m2, m3, m4⟩, ne⟩ := h
  refine ⟨(key c1).trans c1, (key c2).trans c2, (key c3).trans c3, ⟨n, f, m1.same (hg.block _ m1.lt (fun e => ne (Option.some.inj e))), m2, fun d => (m3 d).same fun b hb => ?_, m4⟩, ne⟩
  obtain ⟨cur, hc⟩ := (m3 d).cells b hb
  exact key hc
def WalkP (zs : List Nx) (s : ByteArray) (S : ByteArray → Prop) (Ms K : Nat) (w : World) (e : Ending) (w' : World) : Prop :=
  e = .returned (.tuple #[]) ∧ ∃ S' m', Dfs (nds zs) s S S' ∧ GMap slit w' Tryd.prog 9 Ms m' (BF S') ∧ m' + un zs S' ≤ K ∧ w.grownBy w' (some Ms)
set_option maxRecDepth 100000 in
set_option maxHeartbeats 1000000 in
theorem walk_c {zs : List Nx} {base H1 H2 H3 Md Ms K : Nat} (hK : K ≤ 1000) (hz : zs.length ≤ 1000) (hd : ∀ z ∈ zs, z.deps.length ≤ 1000) (hdz : ∀ z ∈ zs, ∀ d ∈ z.deps, d.size ≤ 140737488351232) : ∀ (u : Nat) (s : ByteArray) (w : World) (S : ByteArray → Prop) (m : Nat),
    un zs S ≤ u → PEnv zs base H1 H2 H3 Md Ms w → GMap slit w Tryd.prog 9 Ms m (BF S) → m + un zs S ≤ K → s.size ≤ 140737488351232 →
    Calls Tryd.prog 26 #[.string s, .pointer (some ⟨H1, 0, none⟩), .pointer (some ⟨H2, 0, none⟩), .pointer (some ⟨H3, 0, none⟩)] w (WalkP zs s S Ms K w) := by
  have K0 := keyStr Tryd.underlying9
  have zS : ∀ w, (zeroValue 25).run Tryd.prog w = .ok (.slice none 0 0) w := fun _ => by kernel_rfl
  have zB : ∀ w, (zeroValue 4).run Tryd.prog w = .ok (.bool false) w := fun _ => by kernel_rfl
  intro u
  induction u using Nat.strongRecOn with
  | _ u ih =>
  intro s w S m hu hE hM hmK hs
  have hIH := Lib.hid ih
  clear ih
  have hks : keyOf Tryd.prog 9 (.string s) = some (slit s) := keyStr_mk Tryd.underlying9 (by unfold maxLen; omega)
  have e1 : w.cell? ⟨H1, 0, none⟩ = some (.map (some Md)) := cell_of hE.c1 0
  obtain ⟨nd, f, m1, m2, m3, m4⟩ := hE.dm
  have hrow := m3 s
  obtain ⟨Ar, cr, hsh⟩ := hrow.shape
  obtain ⟨L, hL⟩ : ∃ L, (depsAll zs s).length = L := ⟨_, rfl⟩
  rw [hL] at hsh
  have hL1 : L ≤ 1000000 := by
    have := depsAll_len hd s
    rw [hL] at this
    have : zs.length * 1000 ≤ 1000 * 1000 := Nat.mul_le_mul_right _ hz
    omega
  have hfs := Lib.hid hsh
  rw [hsh] at hrow
  have hLH := Lib.hid hL
  have hrowH := Lib.hid hrow
  have m1H := Lib.hid m1
  have m2H := Lib.hid m2
  have hEH := Lib.hid hE
  have hMH := Lib.hid hM
  have hmKH := Lib.hid hmK
  have huH := Lib.hid hu
  have hdH := Lib.hid hd
  have hdzH := Lib.hid hdz
  clear m1 m2 m3 m4 hsh hrow hL hE hM hmK hu hd hdz
  go_enter Tryd.func26, Tryd.ntmps26
  go_wp2_with (at_lookup; go_loud (refine wpList_lookup_g K0 rfl _ _ 49 rfl 25 Tryd.underlying49 (zS _) rfl m1H.out s rfl hks ?_; rw [hfs.out]))
  go_loopw [13] (fun iv wr => ∃ (j m' : Nat) (S' : ByteArray → Prop), j ≤ L ∧ iv = .int .i64 j ∧ DfsTo (nds zs) s S S' ((depsAll zs s).take j) ∧ GMap slit wr Tryd.prog 9 Ms m' (BF S') ∧ m' + un zs S' ≤ K ∧ w.grownBy wr (some Ms)) (fun iv _ => L - (intOf iv).toNat)
  case atStart => exact ⟨0, m, S, Nat.zero_le _, rfl, DfsTo.nil _ _ _, hMH.out, hmKH.out, ⟨rfl, rfl, rfl, Nat.le_refl _, fun _ _ _ => rfl⟩⟩
  case round =>
    obtain ⟨j, m', S', hj, rfl, hD, hM, hmK', hG⟩ := hrel
    have hE' := hEH.out.keep hMH.out.obj hG
    by_cases hjl : j < L
    · have hrw : SRow base wr (.slice Ar L cr) (depsAll zs s) := hrowH.out.same fun b hb => by
        obtain ⟨cur, hc⟩ := hrowH.out.cells b hb
        exact hG.block b (heap_lt hc) (fun e => map_ne hc hMH.out.obj (Option.some.inj e))
      obtain ⟨g, hg, -⟩ := hrw.addr (by omega)
      subst hg
      have cd := hrw.at j (by rw [hLH.out]; exact hjl)
      obtain ⟨d, hd'⟩ : ∃ d, d = (depsAll zs s).getD j ByteArray.empty := ⟨_, rfl⟩
      rw [← hd'] at cd
      have hjl' : j < (depsAll zs s).length := by rw [hLH.out]; exact hjl
      have hdd : d = (depsAll zs s)[j] := by rw [hd', List.getD_eq_getElem?_getD, List.getElem?_eq_getElem hjl']; rfl
      have hdm : ∃ z ∈ zs, z.nm = s ∧ d ∈ z.deps := depsAll_mem.1 (by rw [hdd]; exact List.getElem_mem _)
      have htk : (depsAll zs s).take (j + 1) = (depsAll zs s).take j ++ [d] := by rw [List.take_succ_eq_append_getElem hjl', hdd]
      have hds : d.size ≤ 140737488351232 := by obtain ⟨z, hz, _, h⟩ := hdm; exact hdzH.out z hz d h
      have hkd : keyOf Tryd.prog 9 (.string d) = some (slit d) := keyStr_mk Tryd.underlying9 (by unfold maxLen; omega)
      have e1' : wr.cell? ⟨H1, 0, none⟩ = some (.map (some Md)) := cell_of hE'.c1 0
      have e2' : wr.cell? ⟨H2, 0, none⟩ = some (.map (some Ms)) := cell_of hE'.c2 0
      have e3' := cell_of hE'.c3 0
      have m1' : GMap slit wr Tryd.prog 9 Md nd f := m1H.out.same (hG.block _ m1H.out.lt (fun e => hE'.ne (Option.some.inj e)))
      replace m1' := Lib.hid m1'
      replace hd' := Lib.hid hd'
      replace hdd := Lib.hid hdd
      replace htk := Lib.hid htk
      replace hrw := Lib.hid hrw
      replace hD := Lib.hid hD
      replace hM := Lib.hid hM
      replace hmK' := Lib.hid hmK'
      replace hG := Lib.hid hG
      replace hE' := Lib.hid hE'
      replace hdm := Lib.hid hdm
      clear hfs
      by_cases hn : d ∈ names zs
      · obtain ⟨vd, hvd⟩ := Option.isSome_iff_exists.1 ((m2H.out d).2 hn)
        replace hvd := Lib.hid hvd
        by_cases hS : S' d
        · have hbf : BF S' d = some (.bool true) := by unfold BF; rw [if_pos hS]
          have hlk := look_run K0 60 4 Tryd.underlying60 (zB _) hM.out d hkd
          rw [hbf, Option.getD_some] at hlk
          clear hbf
          replace hS := Lib.hid hS
          replace hn := Lib.hid hn
          go_wp2_with (at_lookup; refine wpList_lookup_ok_g K0 rfl _ _ 49 rfl 25 Tryd.underlying49 (zS _) rfl m1'.out d rfl hkd ?_; simp only [hvd.out, Option.getD_some, Option.isSome_some])
          go_roundw
          case rel => exact ⟨j + 1, m', S', by omega, by go_num, by rw [htk.out]; exact hD.out.skip fun _ => hS.out, hM.out, hmK'.out, hG.out⟩
          case measure => simp [intOf]; omega
        · have hbf : BF S' d = none := by unfold BF; rw [if_neg hS]
          have hlk := look_run K0 60 4 Tryd.underlying60 (zB _) hM.out d hkd
          rw [hbf, Option.getD_none] at hlk
          clear hbf
          have hm1 : m' < maxLen := by have := hmK'.out; unfold maxLen; omega
          have hun := un_lt hn hS
          replace hS := Lib.hid hS
          replace hn := Lib.hid hn
          replace hun := Lib.hid hun
          go_wp2_with (first
            | (at_lookup; refine wpList_lookup_ok_g K0 rfl _ _ 49 rfl 25 Tryd.underlying49 (zS _) rfl m1'.out d rfl hkd ?_; simp only [hvd.out, Option.getD_some, Option.isSome_some])
            | (at_mapUpdate; refine wpList_update_g K0 rfl _ _ _ 60 rfl 4 Tryd.underlying60 rfl hM.out hm1 d (.bool true) rfl rfl hkd ?_; intro w1 hM1 ht1; have hE1 := hE'.out.keep hM.out.obj ht1.grown; have e4 := cell_of hE1.c3 0; replace hE1 := Lib.hid hE1; replace hM1 := Lib.hid hM1; replace ht1 := Lib.hid ht1))
          have hM1' := hM1.out
          rw [BF_upd] at hM1'
          have hss := un_le (zs := zs) hD.out.1
          refine (hIH.out (un zs fun c => c = d ∨ S' c) (by have := hun.out; have := huH.out; omega) d w1 _ (m' + 1) (Nat.le_refl _) hE1.out hM1' (by have := hun.out; have := hmK'.out; omega) hds).mono ?_
          rintro e w2 ⟨rfl, S'', m'', hD2, hM2, hmK2, hG2⟩
          have hD3 := Lib.hid (hD.out.go (by obtain ⟨z, hz, e, h⟩ := hdm.out; exact ⟨z.nd, List.mem_map.2 ⟨z, hz, rfl⟩, e, h⟩) (there_names.2 hn.out) hD2)
          have hG3 := Lib.hid ((hG.out.trans ht1.out.grown).trans hG2)
          replace hM2 := Lib.hid hM2
          replace hmK2 := Lib.hid hmK2
          clear hM1' hss hD2 hG2
          go_wp2_with fail
          go_roundw
          case rel => exact ⟨j + 1, m'', S'', by omega, by go_num, by rw [htk.out]; exact hD3.out, hM2.out, hmK2.out, hG3.out⟩
          case measure => simp [intOf]; omega
      · have hnone : f d = none := by
          rw [← Option.not_isSome_iff_eq_none]
          exact fun h => hn ((m2H.out d).1 h)
        replace hnone := Lib.hid hnone
        replace hn := Lib.hid hn
        go_wp2_with (at_lookup; refine wpList_lookup_ok_g K0 rfl _ _ 49 rfl 25 Tryd.underlying49 (zS _) rfl m1'.out d rfl hkd ?_; simp only [hnone.out, Option.getD_none, Option.isSome_none])
        go_roundw
        case rel => exact ⟨j + 1, m', S', by omega, by go_num, by rw [htk.out]; exact hD.out.skip fun ht => absurd (there_names.1 ht) hn.out, hM.out, hmK'.out, hG.out⟩
        case measure => simp [intOf]; omega
    · obtain rfl : j = L := by omega
      replace hD := Lib.hid hD
      replace hM := Lib.hid hM
      replace hmK' := Lib.hid hmK'
      replace hG := Lib.hid hG
      go_wp2_with fail
      go_end0
      refine ⟨rfl, S', m', hD.out.done fun x hx e d hd => ?_, hM.out, hmK'.out, hG.out⟩
      obtain ⟨z, hz, rfl⟩ := nds_nd hx
      rw [List.take_of_length_le (by rw [hLH.out]; exact Nat.le_refl _)]
      exact depsAll_mem.2 ⟨z, hz, e, hd⟩
end Go.Proofs.YtalkhiggapbfjaaDoor.Orp
