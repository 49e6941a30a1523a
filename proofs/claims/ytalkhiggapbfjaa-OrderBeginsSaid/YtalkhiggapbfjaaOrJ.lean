/- The row OrderBegins of layer 6: its walk. -/
import Derived.Test.YtalkhiggapbfjaaOrF
set_option linter.unusedVariables false
set_option linter.unusedSimpArgs false
namespace Go.Proofs.Ytalkhiggapbfjaa.Orp
open Go Go.RowKit Go.Proofs.Ytalkhiggapbfjaa.B Go.Proofs.Ytalkhiggapbfjaa.St Go.Proofs.Ytalkhiggapbfjaa.Mp
open Go.Proofs.Ytalkhiggapbfjaa.Hp (ltB le tob ltB_iff)
theorem srow_below {base : Nat} {w w' : World} {v : Value} {l : List ByteArray} (h : SRow base w v l) (hb : Below w.heap.size w w') : SRow base w' v l := h.same fun b hk => hb.block b (h.lt b hk).2
theorem nds_only (zs : List Nx) (q : List ByteArray) : nds (zs.filter fun z => inB q z.nm) = only (nds zs) q := by
  unfold nds only
  rw [List.filter_map]
  congr 1
  exact List.filter_congr fun z _ => by rw [Bool.eq_iff_iff, inB_iff]; simp only [Function.comp, Nx.nd, List.contains_iff_mem]
noncomputable def neB (g s : ByteArray) : Bool := open Classical in decide (s ≠ g)
theorem neB_iff {g s : ByteArray} : neB g s = true ↔ s ≠ g := by unfold neB; simp
theorem ss_nodup {l : List ByteArray} (h : SS (toL l)) : l.Nodup := by
  unfold toL at h
  exact (List.pairwise_map.1 h).imp fun {a b} hab e => by subst e; exact List.lt_irrefl _ hab
/-- A closed part has no fault. -/
theorem part_nil {zs : List Nx} {l q : List ByteArray} (hl : Lin ltB (nds zs) l) (hn : (names zs).Nodup) (hle : l.length = zs.length) (hq : ∀ x ∈ nds zs, x.nm ∈ q → ∀ d ∈ x.deps, d ∈ q) {base : Nat} {w' : World} {v er : Value} (h : LinRes (zs.filter fun z => inB q z.nm) base w' v er) : er = .nilIface := by
  have hn' : ((nds zs).map Nd.nm).Nodup := by rw [names_nds]; exact hn
  have hle' : l.length = (nds zs).length := by rw [hle]; unfold nds; simp
  rcases h with ⟨hnd, _⟩ | ⟨_, m, hm, ⟨hlt, _⟩ | ⟨_, he, _⟩⟩
  · refine absurd ?_ hnd
    rw [← names_nds, nds_only]
    exact only_nodup hn' q
  · rw [nds_only] at hm
    have := part_closed hl hn' hle' hq hm
    rw [← nds_only] at this
    unfold nds at this
    rw [List.length_map] at this
    omega
  · exact he
def OnlyS (zs : List Nx) (q : List ByteArray) (w : World) (e : Ending) (w' : World) : Prop := ∃ A c n, e = .returned (.slice A n c) ∧ n = (zs.filter fun z => inB q z.nm).length ∧ SetAt w' A c (zs.filter fun z => inB q z.nm) ∧ Below w.heap.size w w'
theorem only_set (A : Option Addr) (c : Nat) (zs : List Nx) (Aq : Option Addr) (cq : Nat) (q : List ByteArray) (w : World) (H1 : Nat) (hS : SetAt w A c zs) (hz : zs.length ≤ 1000) (hq : RAt w Aq q) (m : Nat) (hm : q.length = m) (hql : m ≤ 1000000) (hH : w.heap[H1]? = some (.cells #[.slice A zs.length c] 22 (0, 0))) :
    Calls Try.prog 8 #[.slice Aq m cq, .pointer (some ⟨H1, 0, none⟩)] w (OnlyS zs q w) := by
  subst hm
  refine (only_c A c zs Aq cq q w H1 hS hz hq hql hH).mono ?_
  rintro e w' ⟨v, rfl, hr, hb⟩
  obtain ⟨A', c', rfl, hs⟩ := hr.set (by have := List.length_filter_le (fun z : Nx => inB q z.nm) zs; omega) (fun z hz => by
    have := (hS.below hb).2.2.2 z (List.mem_filter.1 hz).1
    exact this)
  exact ⟨A', c', _, rfl, rfl, hs, hb⟩
theorem check_part {zs : List Nx} {l q : List ByteArray} (hl : Lin ltB (nds zs) l) (hn : (names zs).Nodup) (hle : l.length = zs.length) (hq : ∀ x ∈ nds zs, x.nm ∈ q → ∀ d ∈ x.deps, d ∈ q) (hz : zs.length ≤ 1000) (hd : ∀ z ∈ zs, z.deps.length ≤ 1000)
    (A : Option Addr) (c n : Nat) (w : World) (hS : SetAt w A c (zs.filter fun z => inB q z.nm)) (hnn : n = (zs.filter fun z => inB q z.nm).length) : Calls Try.prog 12 #[.slice A n c] w fun e w' => e = .returned .nilIface ∧ Below w.heap.size w w' := by
  subst hnn
  refine (check_c A c _ w hS (by have := List.length_filter_le (fun z : Nx => inB q z.nm) zs; omega) (fun z hz => hd z (List.mem_filter.1 hz).1)).mono ?_
  rintro e w' ⟨v, er, rfl, hr, hb⟩
  rw [part_nil hl hn hle hq hr]
  exact ⟨rfl, hb⟩
set_option maxRecDepth 100000 in
set_option maxHeartbeats 1000000 in
theorem begins_c (A : Option Addr) (c : Nat) (zs : List Nx) (nv : Int) (w : World) (hS : SetAt w A c zs) (hn : (Lit.int .i64 nv).wf = true) : Calls Try.prog 3 #[.slice A zs.length c, .int .i64 nv] w (YesP w) := by
  obtain ⟨W0, hW0⟩ : ∃ W0, w.alloc (.cells #[.slice A zs.length c] 22) = W0 := ⟨_, rfl⟩
  have hW0s : W0.heap.size = w.heap.size + 1 := by rw [← hW0, St.size_alloc]
  have hwW : Below w.heap.size w W0 := by rw [← hW0]; exact (Below.refl _ _).alloc (Nat.le_refl _) _
  have hbox : W0.heap[w.heap.size]? = some (.cells #[.slice A zs.length c] 22 (0, 0)) := by rw [← hW0]; exact heap_alloc_at _ _
  have hSH := Lib.hid (hS.below hwW)
  have hce : ∀ w', Below W0.heap.size W0 w' → w'.heap[w.heap.size]? = some (.cells #[.slice A zs.length c] 22 (0, 0)) := fun w' h => (h.block _ (by omega)).trans hbox
  have hceH := Lib.hid hce
  have hend : ∀ w', Below W0.heap.size W0 w' → Below w.heap.size w w' := fun w' h => hwW.trans (h.mono (by omega))
  have hendH := Lib.hid hend
  have hW0H := Lib.hid hW0
  have hW0sH := Lib.hid hW0s
  clear hS hW0 hW0s hwW hbox hce hend
  go_enter Try.func3, Try.ntmps3
  go_wp2_with fail
  rw [hW0H.out]
  refine (awake_c W0).mono ?_
  rintro e w1 ⟨rfl, hb1⟩
  have e1 := cell_of (hceH.out w1 hb1) 0
  replace hb1 := Lib.hid hb1
  go_wp2_with fail
  refine (small_c A c zs w1 (hSH.out.below hb1.out)).mono ?_
  rintro e w2 ⟨he, hb2⟩
  obtain ⟨sb, hsb⟩ : ∃ sb, sb = SmallB zs := ⟨_, rfl⟩
  rw [← hsb] at he
  subst he
  have hb2w : Below W0.heap.size W0 w2 := hb1.out.trans (hb2.mono hb1.out.size)
  clear hb1 hb2 e1
  have e2 := cell_of (hceH.out w2 hb2w) 0
  replace hb2w := Lib.hid hb2w
  cases sb
  · clear hsb
    go_wp2_with fail
    go_ret
    exact ⟨rfl, hendH.out _ hb2w.out⟩
  have hsm : zs.length ≤ 60 ∧ depSum zs ≤ 400 := by unfold SmallB at hsb; simpa using hsb.symm
  have hdz : ∀ z ∈ zs, z.deps.length ≤ 1000 := fun z hz => by have := depSum_mem hz; omega
  have hL := linear2_c A c zs w2 (hSH.out.below hb2w.out) (by omega) hdz
  clear hsb
  replace hsm := Lib.hid hsm
  replace hdz := Lib.hid hdz
  go_wp2_with fail
  refine hL.mono ?_
  rintro e w3 ⟨v, er, rfl, hr, hb3⟩
  have hb3w : Below W0.heap.size W0 w3 := hb2w.out.trans (hb3.mono hb2w.out.size)
  have hbs : W0.heap.size ≤ w2.heap.size := hb2w.out.size
  clear hL e2
  have e3 := cell_of (hceH.out w3 hb3w) 0
  replace hb3w := Lib.hid hb3w
  rcases hr with ⟨hnd, rfl, rfl⟩ | ⟨hnd, l, hl, ⟨hlt, rfl, rfl⟩ | ⟨hle, rfl, hrow⟩⟩
  · clear hnd hb3 hb2w
    go_wp2_with fail
    go_ret
    exact ⟨rfl, hendH.out _ hb3w.out⟩
  · clear hl hlt hnd hb3 hb2w
    go_wp2_with fail
    go_ret
    exact ⟨rfl, hendH.out _ hb3w.out⟩
  obtain ⟨Al, cl, rfl⟩ := hrow.shape
  obtain ⟨n, hn'⟩ : ∃ n, l.length = n := ⟨_, rfl⟩
  rw [hn'] at hrow ⊢
  have hlinH := Lib.hid hl
  have hndH := Lib.hid hnd
  have hrowH := Lib.hid hrow
  have hleH := Lib.hid hle
  have hn'H := Lib.hid hn'
  clear hl hnd hrow hle hn' hb3 hb2w
  by_cases h0 : n = 0
  · subst h0
    go_wp2_with fail
    go_ret
    exact ⟨rfl, hendH.out _ hb3w.out⟩
  have hn60 : n ≤ 60 := by have := hsm.out.1; have := hleH.out; have := hn'H.out; omega
  obtain ⟨g, hg, -⟩ := hrowH.out.addr (by omega)
  subst hg
  have hcap : n ≤ cl ∧ cl ≤ maxLen := by
    rcases hrowH.out.form with ⟨e, _⟩ | ⟨g', cap, cur, e, _, _, h4, h5, _⟩
    · cases e
    · cases e; rw [hn'H.out] at h4; exact ⟨h4, h5⟩
  obtain ⟨hc1, hc2⟩ := hcap
  unfold maxLen at hc2
  have h0b : ((n : Int) == 0) = false := by simpa using (show ¬ (n : Int) = 0 by omega)
  obtain ⟨hp1, hp2⟩ := pIx_eq n (by omega) (by omega) nv
  obtain ⟨p, hp⟩ : ∃ p, p = pIx n nv := ⟨_, rfl⟩
  rw [← hp] at hp1 hp2
  clear hp
  have hpl : p < l.length := by rw [hn'H.out]; exact hp2
  obtain ⟨s, hs⟩ : ∃ s, s = l.getD p ByteArray.empty := ⟨_, rfl⟩
  have hsp : l[p] = s := by rw [hs, List.getD_eq_getElem?_getD, List.getElem?_eq_getElem hpl]; rfl
  have cs := hrowH.out.at p hpl
  rw [← hs] at cs
  have hss : s.size ≤ 140737488351232 := lin_sizes hSH.out hlinH.out s (by rw [← hsp]; exact List.getElem_mem _)
  have hP := Lib.hid (past_c A c zs s w3.drew (hSH.out.below (hb3w.out.drew)) (by have := hsm.out.1; omega) hdz.out hss)
  replace hs := Lib.hid hs
  replace hsp := Lib.hid hsp
  replace hpl := Lib.hid hpl
  go_wp2_with fail
  go_region_held_law (fun w' => w'.cell? ⟨w.heap.size, 0, none⟩ = some (.slice A zs.length c) ∧ w'.cell? ⟨g, p, none⟩ = some (.string s)) (go_keep)
    ((go_at_call 10
      refine hP.out.mono ?_
      rintro e w4 ⟨v4, rfl, hr4, hb4⟩
      have hb4w : Below W0.heap.size W0 w4 := hb3w.out.drew.trans (hb4.mono hb3w.out.drew.size)
      have hl4 : SRow w2.heap.size w4 (.slice (some ⟨g, 0, none⟩) n cl) l := srow_below (w := w3.drew) (hrowH.out.same fun _ _ => rfl) hb4
      have k1 := cell_of (hceH.out w4 hb4w) 0
      have k2 : w4.cell? ⟨g, p, none⟩ = some (.string s) := by
        have := hl4.at p hpl.out
        rw [← hs.out] at this
        exact this
      replace hr4 := Lib.hid hr4
      replace hb4w := Lib.hid hb4w
      replace hl4 := Lib.hid hl4
      clear hb4))
  have hHd := Lib.hid (heads_c A c zs w4 (hSH.out.below hb4w.out) (by have := hsm.out.1; omega) hdz.out)
  clear e3 cs hP
  go_wp2_with fail
  refine hHd.out.mono ?_
  rintro e w5 ⟨v5, rfl, ⟨hdl, hr5, hss5, hmem5⟩, hb5⟩
  obtain ⟨pl, hrp, hsp4, hmem4⟩ := hr4.out
  have hb5w : Below W0.heap.size W0 w5 := hb4w.out.trans (hb5.mono hb4w.out.size)
  have hl5 := srow_below hl4.out hb5
  have hrp5 := srow_below hrp hb5
  have e5 := cell_of (hceH.out w5 hb5w) 0
  have hn0 : ((nds zs).map Nd.nm).Nodup := by rw [names_nds]; exact hndH.out
  have hle0 : l.length = (nds zs).length := by rw [hleH.out]; unfold nds; simp
  have hhl := head_last hlinH.out hn0 hle0 (by rw [hn'H.out]; omega)
  have hhm : l[l.length - 1]'(by rw [hn'H.out]; omega) ∈ hdl := (hmem5 _).2 hhl
  have hhl0 : 0 < hdl.length := List.length_pos_of_mem hhm
  obtain ⟨Ah, ch, hv5⟩ := hr5.shape
  obtain ⟨h, hh⟩ : ∃ h, hdl.length = h := ⟨_, rfl⟩
  rw [hh] at hv5 hhl0
  subst hv5
  have hhb : h ≤ 1000000 := by
    have := subset_len (l := hdl) (m := names zs) (ss_nodup hss5) (fun x hx => there_names.1 ((hmem5 x).1 hx).1)
    rw [hh] at this
    unfold names at this
    rw [List.length_map] at this
    have := hsm.out.1
    omega
  obtain ⟨gh, hgh, -⟩ := hr5.addr (by omega)
  subst hgh
  obtain ⟨t, ht⟩ : ∃ t : Nat, p % h = t := ⟨_, rfl⟩
  have hth : t < h := by rw [← ht]; exact Nat.mod_lt _ hhl0
  have htm : (p : Int).tmod (h : Int) = (t : Int) := by rw [← ht]; rfl
  have hne : ((h : Int) == 0) = false := by simpa using (show ¬ (h : Int) = 0 by omega)
  obtain ⟨gn, hgn⟩ : ∃ gn, gn = hdl.getD t ByteArray.empty := ⟨_, rfl⟩
  have hgm : gn ∈ hdl := by
    rw [hgn, List.getD_eq_getElem?_getD, List.getElem?_eq_getElem (by rw [hh]; exact hth)]
    exact List.getElem_mem _
  have hHead : Head (nds zs) gn := (hmem5 _).1 hgm
  have cg : w5.cell? ⟨gh, t, none⟩ = some (.string gn) := by
    have := hr5.at t (by rw [hh]; exact hth)
    rw [← hgn] at this
    exact this
  have hr5H := Lib.hid hr5
  have hl5H := Lib.hid hl5
  have hrp5H := Lib.hid hrp5
  have hb5H := Lib.hid hb5w
  have hHeadH := Lib.hid hHead
  have hspH := Lib.hid hsp4
  have hmemH := Lib.hid hmem4
  have hn0H := Lib.hid hn0
  have hle0H := Lib.hid hle0
  have hhH := Lib.hid hh
  clear hr5 hl5 hrp5 hb5w hHead hsp4 hmem4 hn0 hle0 hhl hhm hmem5 hss5 hrp hb5 hgn hgm ht hr4 hl4 hh
  go_wp2_with fail
  go_loopw [10, 57] (fun rv iv wr => ∃ k : Nat, k ≤ n ∧ iv = .int .i64 k ∧ SRow w5.heap.size wr rv ((l.take k).filter (neB gn)) ∧ Below w5.heap.size w5 wr) (fun _ iv _ => n - (intOf iv).toNat)
  case atStart => exact ⟨0, Nat.zero_le _, rfl, SRow.nil _ _, Below.refl _ _⟩
  case round =>
    obtain ⟨k, hk, rfl, hrr, hB⟩ := hrel
    obtain ⟨Ar, cr, hv⟩ := hrr.shape
    obtain ⟨m, hm⟩ : ∃ m, ((l.take k).filter (neB gn)).length = m := ⟨_, rfl⟩
    have hm1 : m ≤ 1000 := by
      have h1 := List.length_filter_le (neB gn) (l.take k)
      rw [List.length_take] at h1
      omega
    rw [hm] at hv
    subst hv
    by_cases hlt : k < n
    · have hkl : k < l.length := by rw [hn'H.out]; exact hlt
      obtain ⟨x, hx⟩ : ∃ x, x = l.getD k ByteArray.empty := ⟨_, rfl⟩
      have hxk : l[k] = x := by rw [hx, List.getD_eq_getElem?_getD, List.getElem?_eq_getElem hkl]; rfl
      have cx := (srow_below hl5H.out hB).at k hkl
      rw [← hx] at cx
      have cg' : wr.cell? ⟨gh, t, none⟩ = some (.string gn) := (hB.cell (World.block_lt_of_cell? _ _ cg)).trans cg
      have htk : l.take (k + 1) = l.take k ++ [x] := by rw [List.take_succ_eq_append_getElem hkl, hxk]
      have hws := hB.size
      replace hx := Lib.hid hx
      replace hxk := Lib.hid hxk
      replace htk := Lib.hid htk
      replace hrr := Lib.hid hrr
      replace hB := Lib.hid hB
      replace hm := Lib.hid hm
      clear cg e5
      by_cases hxg : x = gn
      · have hq := tl_true hxg
        have hf : (l.take (k + 1)).filter (neB gn) = (l.take k).filter (neB gn) := by
          rw [htk.out, List.filter_append, List.filter_cons_of_neg (by simpa using fun h => neB_iff.1 h hxg)]
          simp
        replace hf := Lib.hid hf
        replace hxg := Lib.hid hxg
        go_wp2_with fail
        go_roundw
        case rel => exact ⟨k + 1, by omega, by go_num, by rw [hf.out]; exact hrr.out, hB.out⟩
        case measure => simp [intOf]; omega
      · have hq := tl_false hxg
        have hf : (l.take (k + 1)).filter (neB gn) = (l.take k).filter (neB gn) ++ [x] := by
          rw [htk.out, List.filter_append, List.filter_cons_of_pos (by simpa using neB_iff.2 hxg)]
          rfl
        replace hf := Lib.hid hf
        replace hxg := Lib.hid hxg
        go_wp2_with (at_builtin; go_loud (refine str_app rfl _ _ 25 rfl Try.underlying25 rfl m 1 rfl hrr.out hm.out (by omega) hws ?_; intro g6 cap6 w6 hr6 hg6 hl6; replace hr6 := Lib.hid hr6; replace hg6 := Lib.hid hg6; replace hl6 := Lib.hid hl6))
        go_roundw
        case rel => exact ⟨k + 1, by omega, by go_num, by rw [hf.out]; exact hr6.out, below_grew hB.out hB.out.size hg6.out (fun j hj => (hrr.out.lt j hj).1)⟩
        case measure => simp [intOf]; omega
    · obtain rfl : n = k := by omega
      rw [List.take_of_length_le (by rw [hn'H.out]; exact Nat.le_refl _)] at hrr hm
      obtain ⟨w6, hw6⟩ : ∃ w6, w6 = wr := ⟨_, rfl⟩
      subst hw6
      have hBw : Below W0.heap.size W0 w6 := hb5H.out.trans (hB.mono hb5H.out.size)
      have hl6 := srow_below hl5H.out hB
      have hrp6 := srow_below hrp5H.out hB
      have b6 := hceH.out w6 hBw
      have e6 := cell_of b6 0
      obtain ⟨Ap, cp, hvp⟩ := hrp6.shape
      obtain ⟨np, hnp⟩ : ∃ np, pl.length = np := ⟨_, rfl⟩
      rw [hnp] at hvp
      subst hvp
      have hpn : pl.Nodup := ss_nodup hspH.out
      have hpt : ∀ d ∈ pl, There (nds zs) d := fun d hd => ((hmemH.out d).1 hd).there
      have hol : (zs.filter fun z => inB pl z.nm).length = np := by
        have := only_len hlinH.out hn0H.out hle0H.out hpn hpt
        rw [← nds_only, hnp] at this
        unfold nds at this
        rw [List.length_map] at this
        exact this
      have hnpb : np ≤ 1000000 := by
        have h1 := List.length_filter_le (fun z : Nx => inB pl z.nm) zs
        have := hsm.out.1
        omega
      have hz1 : zs.length ≤ 1000 := by have := hsm.out.1; omega
      obtain ⟨hpc, hpnot⟩ := past_part hlinH.out hn0H.out hle0H.out (v := s) hmemH.out
      have htkp : (l.take p).length = p := by rw [List.length_take, hn'H.out]; omega
      have hrtk : RAt w6 (some ⟨g, 0, none⟩) (l.take p) := by
        obtain ⟨b, o, e, hc⟩ := (SRow.rat hl6).1 (by rw [hn'H.out]; omega)
        refine fun h0 => ⟨b, o, e, fun j hj => ?_⟩
        rw [htkp] at hj
        rw [hc j (by rw [hn'H.out]; omega), List.getD_eq_getElem?_getD, List.getD_eq_getElem?_getD, List.getElem?_take, if_pos hj]
      have hO1 := Lib.hid (only_set A c zs (some ⟨g, 0, none⟩) cl (l.take p) w6 w.heap.size (hSH.out.below hBw) hz1 hrtk p htkp (by omega) b6)
      have hzn : zs.length = n := by rw [← hleH.out, hn'H.out]
      have hznH := Lib.hid hzn
      have hBwH := Lib.hid hBw
      have hl6H := Lib.hid hl6
      have hrp6H := Lib.hid hrp6
      have hrrH := Lib.hid hrr
      have hmH := Lib.hid hm
      have hpcH := Lib.hid hpc
      have hpnotH := Lib.hid hpnot
      have holH := Lib.hid hol
      have hnpH := Lib.hid hnp
      replace hz1 := Lib.hid hz1
      clear hBw hl6 hrp6 hrr hm hpc hpnot hol hnp b6 hpn hpt hB hrtk hl5H hrp5H htkp e5 cg
      have hle2 : ((n : Int) == (zs.length : Int)) = true := by rw [hzn]; simp
      clear hzn
      go_wp2_with fail
      refine hO1.out.mono ?_
      rintro e w7 ⟨A7, c7, n7, rfl, hn7, hS7, hb7⟩
      have hB7 : Below W0.heap.size W0 w7 := hBwH.out.trans (hb7.mono hBwH.out.size)
      have hC1 := check_part hlinH.out hndH.out hleH.out (take_part hlinH.out hn0H.out hle0H.out p) hz1.out hdz.out A7 c7 n7 w7 hS7 hn7
      have hl7 := srow_below hl6H.out hb7
      have hrp7 := srow_below hrp6H.out hb7
      have hrr7 := srow_below hrrH.out hb7
      replace hB7 := Lib.hid hB7
      replace hC1 := Lib.hid hC1
      replace hl7 := Lib.hid hl7
      replace hrp7 := Lib.hid hrp7
      replace hrr7 := Lib.hid hrr7
      clear hO1 hn7 hS7 hb7 hl6H hrp6H hrrH e6 hle2
      go_wp2_with fail
      refine hC1.out.mono ?_
      rintro e w8 ⟨rfl, hb8⟩
      have hB8 : Below W0.heap.size W0 w8 := hB7.out.trans (hb8.mono hB7.out.size)
      have hl8 := srow_below hl7.out hb8
      have hrp8 := srow_below hrp7.out hb8
      have hrr8 := srow_below hrr7.out hb8
      have b8 := hceH.out w8 hB8
      have e8 := cell_of b8 0
      have hO2 := Lib.hid (only_set A c zs Ap cp pl w8 w.heap.size (hSH.out.below hB8) hz1.out (SRow.rat hrp8).1 np hnpH.out (by omega) b8)
      replace hB8 := Lib.hid hB8
      replace hl8 := Lib.hid hl8
      replace hrp8 := Lib.hid hrp8
      replace hrr8 := Lib.hid hrr8
      clear hb8 b8 hl7 hrp7 hrr7 hC1 hB7
      go_wp2_with fail
      refine hO2.out.mono ?_
      rintro e w9 ⟨A9, c9, n9, rfl, hn9, hS9, hb9⟩
      have hB9 : Below W0.heap.size W0 w9 := hB8.out.trans (hb9.mono hB8.out.size)
      have hC2 := check_part hlinH.out hndH.out hleH.out hpcH.out hz1.out hdz.out A9 c9 n9 w9 hS9 hn9
      have hl9 := srow_below hl8.out hb9
      have hrp9 := srow_below hrp8.out hb9
      have hrr9 := srow_below hrr8.out hb9
      replace hB9 := Lib.hid hB9
      replace hC2 := Lib.hid hC2
      replace hl9 := Lib.hid hl9
      replace hrp9 := Lib.hid hrp9
      replace hrr9 := Lib.hid hrr9
      clear hO2 hn9 hS9 hb9 hl8 hrp8 hrr8 e8 hB8
      go_wp2_with fail
      refine hC2.out.mono ?_
      rintro e w10 ⟨rfl, hb10⟩
      have hB10 : Below W0.heap.size W0 w10 := hB9.out.trans (hb10.mono hB9.out.size)
      have hl10 := srow_below hl9.out hb10
      have hrp10 := srow_below hrp9.out hb10
      have hrr10 := srow_below hrr9.out hb10
      have b10 := hceH.out w10 hB10
      have e10 := cell_of b10 0
      have cs10 := hl10.at p hpl.out
      rw [← hs.out] at cs10
      have hPl := place_c Ap cp pl s w10 (SRow.rat hrp10).1 (by rw [hnpH.out]; omega)
      rw [hnpH.out] at hPl
      have hO3 := Lib.hid (only_set A c zs Ar cr _ w10 w.heap.size (hSH.out.below hB10) hz1.out (SRow.rat hrr10).1 m hmH.out (by omega) b10)
      replace hPl := Lib.hid hPl
      replace hB10 := Lib.hid hB10
      replace hl10 := Lib.hid hl10
      replace hrp10 := Lib.hid hrp10
      replace hrr10 := Lib.hid hrr10
      clear hb10 b10 hl9 hrp9 hrr9 hC2 hB9
      go_wp2_with fail
      refine hPl.out.mono ?_
      rintro e w11 ⟨z, rfl, hz0, hz2, hz3, rfl⟩
      have hzn0 : z < 0 := by
        rcases Int.lt_or_le z 0 with h | h
        · exact h
        · exact absurd (hz0.1 h) hpnotH.out
      clear hz0 hPl
      go_wp2_with fail
      refine hO3.out.mono ?_
      rintro e w12 ⟨A12, c12, n12, rfl, hn12, hS12, hb12⟩
      have hB12 : Below W0.heap.size W0 w12 := hB10.out.trans (hb12.mono hB10.out.size)
      have hrq : ∀ x ∈ nds zs, x.nm ∈ l.filter (neB gn) → ∀ d ∈ x.deps, d ∈ l.filter (neB gn) := by
        have h1 := rest_part hlinH.out hn0H.out hle0H.out hHeadH.out
        have key : ∀ y, y ∈ l.filter (neB gn) ↔ y ∈ l.filter (fun s => @bne ByteArray instBEqOfDecidableEq s gn) := fun y => by rw [List.mem_filter, List.mem_filter, neB_iff]; simp only [bne_iff_ne]
        exact fun x hx hm d hd => (key d).2 (h1 x hx ((key _).1 hm) d hd)
      have hC3 := check_part hlinH.out hndH.out hleH.out hrq hz1.out hdz.out A12 c12 n12 w12 hS12 hn12
      have hrp12 := srow_below hrp10.out hb12
      replace hB12 := Lib.hid hB12
      replace hC3 := Lib.hid hC3
      replace hrp12 := Lib.hid hrp12
      clear hO3 hn12 hS12 hb12 hl10 hrp10 hrr10 e10 hB10 cs10 hrq
      go_wp2_with fail
      refine hC3.out.mono ?_
      rintro e w13 ⟨rfl, hb13⟩
      have hB13 : Below W0.heap.size W0 w13 := hB12.out.trans (hb13.mono hB12.out.size)
      have hrp13 := srow_below hrp12.out hb13
      have b13 := hceH.out w13 hB13
      have e13 := cell_of b13 0
      have hO4 := Lib.hid (only_set A c zs Ap cp pl w13 w.heap.size (hSH.out.below hB13) hz1.out (SRow.rat hrp13).1 np hnpH.out (by omega) b13)
      replace hB13 := Lib.hid hB13
      clear hb13 b13 hrp13 hrp12 hC3 hB12
      go_wp2_with fail
      refine hO4.out.mono ?_
      rintro e w14 ⟨A14, c14, n14, rfl, hn14, hS14, hb14⟩
      have hB14 := Lib.hid (hendH.out _ (hB13.out.trans (hb14.mono hB13.out.size)))
      rw [holH.out] at hn14
      subst hn14
      clear hO4 hS14 hb14 e13 hB13
      go_wp2_with fail
      go_ret
      exact ⟨rfl, hB14.out⟩
end Go.Proofs.Ytalkhiggapbfjaa.Orp
namespace Go.Proofs.Ytalkhiggapbfjaa.Orp
open Go Go.RowKit Go.WideShapes Go.ChangeShapes Go.Proofs.Ytalkhiggapbfjaa.B
theorem begins_any {H : Type} {enc : TypeId × Value → H} (v : Value) (a : Int) (w : World) {d : DataW H} {ps : List MemPlace} {base : Nat}
    (hv : Value.okWide Try.prog w .any base 22 v) (h : DataW.Trod enc Try.prog w 0 (fun _ => true) true 22 v d ps) (hw : ∀ n ∈ d.weights Try.prog 22, n ≤ reachBytes) (ha : (Lit.int .i64 a).wf = true) :
    Calls Try.prog 3 #[v, .int .i64 a] w (YesP w) := by
  obtain ⟨A, c, zs, rfl, hS⟩ := set_open v w hv h hw
  exact begins_c A c zs a w hS ha
end Go.Proofs.Ytalkhiggapbfjaa.Orp
