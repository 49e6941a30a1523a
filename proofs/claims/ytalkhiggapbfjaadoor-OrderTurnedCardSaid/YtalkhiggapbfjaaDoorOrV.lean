/- The row OrderTurned of layer 6: its walk. -/
import Derived.Test.YtalkhiggapbfjaaDoorOrK
set_option linter.unusedVariables false
set_option linter.unusedSimpArgs false
namespace Go.Proofs.YtalkhiggapbfjaaDoor.Orp
open Go Go.RowKit Go.Proofs.YtalkhiggapbfjaaDoor.B Go.Proofs.YtalkhiggapbfjaaDoor.St Go.Proofs.YtalkhiggapbfjaaDoor.Mp
open Go.Proofs.YtalkhiggapbfjaaDoor.Hp (ltB le tob ltB_iff)
set_option maxRecDepth 100000 in
set_option maxHeartbeats 1000000 in
theorem turned_c (A : Option Addr) (c : Nat) (zs : List Nx) (kv : Int) (nm : ByteArray) (w : World) (hS : SetAt w A c zs) (hE : Err.ErrT w) (hnm : nm.size ≤ 140737488351232) : Calls Tryd.prog 3 #[.slice A zs.length c, .int .i64 kv, .string nm] w (YesP w) := by
  obtain ⟨n, hn⟩ : ∃ n, zs.length = n := ⟨_, rfl⟩
  rw [hn]
  have hnH := Lib.hid hn
  have hSH := Lib.hid hS
  have hEH := Lib.hid hE
  clear hS hn hE
  go_enter Tryd.func3, Tryd.ntmps3
  go_wp2_with fail
  refine (awake_c w).mono ?_
  rintro e w1 ⟨rfl, hb1⟩
  replace hb1 := Lib.hid hb1
  by_cases h0 : n = 0
  · subst h0
    go_wp2_with fail
    go_ret
    exact ⟨rfl, hb1.out⟩
  have h0b : ((n : Int) == 0) = false := by simpa using (show ¬ (n : Int) = 0 by omega)
  go_wp2_with fail
  have hsc := small_c A c zs w1 (hSH.out.below hb1.out)
  rw [hnH.out] at hsc
  refine hsc.mono ?_
  clear hsc
  rintro e w2 ⟨he, hb2⟩
  obtain ⟨sb, hsb⟩ : ∃ sb, sb = SmallB zs := ⟨_, rfl⟩
  rw [← hsb] at he
  subst he
  have hb2w : Below w.heap.size w w2 := hb1.out.trans (hb2.mono hb1.out.size)
  clear hb1 hb2
  replace hb2w := Lib.hid hb2w
  cases sb
  · clear hsb
    go_wp2_with fail
    go_ret
    exact ⟨rfl, hb2w.out⟩
  have hsm : zs.length ≤ 60 ∧ depSum zs ≤ 400 := by unfold SmallB at hsb; simpa using hsb.symm
  have hdz : ∀ z ∈ zs, z.deps.length ≤ 1000 := fun z hz => by have := depSum_mem hz; omega
  have hn60 : n ≤ 60 := by have := hsm.1; have := hnH.out; omega
  clear hsb
  replace hsm := Lib.hid hsm
  replace hdz := Lib.hid hdz
  obtain ⟨hp1, hp2⟩ := pIx_eq n (by omega) (by omega) kv
  obtain ⟨k, hk⟩ : ∃ k, k = pIx n kv := ⟨_, rfl⟩
  rw [← hk] at hp1 hp2
  clear hk
  obtain ⟨b, o, hA, -⟩ := (hSH.out).get 0 (by rw [hnH.out]; omega)
  subst hA
  go_wp2_with fail
  go_loopw [8, 9] (fun ov iv wr => ∃ j : Nat, j ≤ n ∧ iv = .int .i64 ((j : Int) - 1) ∧ NRow w2.heap.size wr ov ((rot zs k).drop j).reverse ∧ Below w2.heap.size w2 wr) (fun _ iv _ => (intOf iv + 1).toNat)
  case atStart => exact ⟨n, Nat.le_refl _, by go_num, by rw [List.drop_eq_nil_of_le (by rw [rot_len, hnH.out]; exact Nat.le_refl _)]; exact NRow.nil _ _, Below.refl _ _⟩
  case round =>
    obtain ⟨j, hj, rfl, hrow, hB⟩ := hrel
    obtain ⟨Ao, co, ho⟩ := hrow.shape
    have hml : ((rot zs k).drop j).reverse.length = n - j := by rw [List.length_reverse, List.length_drop, rot_len, hnH.out]
    rw [hml] at ho
    subst ho
    by_cases hj0 : j = 0
    · subst hj0
      obtain ⟨wA, hwA⟩ : ∃ wA, wA = wr := ⟨_, rfl⟩
      subst hwA
      rw [List.drop_zero, Nat.sub_zero] at hrow
      rw [Nat.sub_zero]
      obtain ⟨os, hos⟩ : ∃ os, os = (rot zs k).reverse := ⟨_, rfl⟩
      have hperm : os.Perm zs := by rw [hos]; exact rot_perm zs k
      rw [← hos] at hrow
      have hBA : Below w.heap.size w wA := hb2w.out.trans (hB.mono hb2w.out.size)
      have hon : os.length = n := by rw [hperm.length_eq, hnH.out]
      obtain ⟨A', c', hv', hSo⟩ := hrow.set (by rw [hon]; omega) (fun z hz => by
        have := (hSH.out.below hBA).2.2.2 z (hperm.mem_iff.1 hz)
        exact this)
      rw [hon] at hv'
      obtain ⟨e1, -, e3⟩ := (Value.slice.injEq ..).mp hv'
      subst e1
      subst e3
      have hdo : ∀ z ∈ os, z.deps.length ≤ 1000 := fun z hz => hdz.out z (hperm.mem_iff.1 hz)
      have hL1 := linear2_c _ c zs wA (hSH.out.below hBA) (by rw [hnH.out]; omega) hdz.out
      rw [hnH.out] at hL1
      have hL1H := Lib.hid hL1
      have hnm1 : ∀ s, Reach (nds zs) nm s → s ∈ names zs := fun s h => there_names.1 h.there
      have hhm1 : ∀ s, Head (nds zs) s → s ∈ names zs := fun s h => there_names.1 h.1
      have hzn : zs.length ≤ 1000 := by rw [hnH.out]; omega
      have hBAH := Lib.hid hBA
      have hSoH := Lib.hid hSo
      have honH := Lib.hid hon
      have hpermH := Lib.hid hperm
      have hdoH := Lib.hid hdo
      have hnm1H := Lib.hid hnm1
      have hhm1H := Lib.hid hhm1
      have hznH := Lib.hid hzn
      clear hL1 hBA hSo hon hperm hdo hnm1 hhm1 hzn hrow hB hos hml
      go_wp2_with fail
      refine hL1H.out.mono ?_
      rintro e wB ⟨va, era, rfl, hra, hbB⟩
      have hBB : Below w.heap.size w wB := hBAH.out.trans (hbB.mono hBAH.out.size)
      have hSB := hSoH.out.below hbB
      have hL2 := linear2_c _ co os wB hSB (by rw [honH.out]; omega) hdoH.out
      rw [honH.out] at hL2
      replace hBB := Lib.hid hBB
      replace hSB := Lib.hid hSB
      replace hL2 := Lib.hid hL2
      replace hra := Lib.hid hra
      clear hbB hL1H
      go_wp2_with fail
      refine hL2.out.mono ?_
      rintro e wC ⟨vb, erb, rfl, hrb, hbC⟩
      have hBC : Below w.heap.size w wC := hBB.out.trans (hbC.mono hBB.out.size)
      have hSC := hSB.out.below hbC
      obtain ⟨L, kk, hrowa, hrowb, hLl, hea, heb⟩ := lin_two hpermH.out hra.out hrb
      have hrowa' := srow_below hrowa hbC
      obtain ⟨Aa, ca, hva⟩ := hrowa'.shape
      obtain ⟨Ab, cb, hvb⟩ := hrowb.shape
      subst hva hvb
      have hsm1 := same_c Aa Ab ca cb L L wC (SRow.rat hrowa').1 (SRow.rat hrowb).1 (by rw [hnH.out] at hLl; omega) (by rw [hnH.out] at hLl; omega) true (by simp)
      obtain ⟨nL, hnL⟩ : ∃ nL, nL = L.length := ⟨_, rfl⟩
      rw [← hnL] at hsm1 ⊢
      replace hBC := Lib.hid hBC
      replace hSC := Lib.hid hSC
      replace hsm1 := Lib.hid hsm1
      replace hea := Lib.hid hea
      replace heb := Lib.hid heb
      clear hra hrb hrowa hrowa' hrowb hbC hLl hnL hL2 hSB hBB
      go_wp2_with fail
      refine hsm1.out.mono ?_
      rintro e wD ⟨rfl, q, rfl⟩
      have hBD := below_drewN hBC.out q
      have hSD := hSC.out.below (below_drewN (Below.refl _ _) q)
      have hcd := code_c hea.out (wC.drewN q) (hEH.out.below hBD)
      replace hBD := Lib.hid hBD
      replace hSD := Lib.hid hSD
      replace hcd := Lib.hid hcd
      clear hsm1 hSC
      go_wp2_with fail
      refine hcd.out.mono ?_
      rintro e wE ⟨rfl, hbE⟩
      have hBE : Below w.heap.size w wE := hBD.out.trans (hbE.mono hBD.out.size)
      have hSE := hSD.out.below hbE
      have hce := code_c heb.out wE (hEH.out.below hBE)
      replace hBE := Lib.hid hBE
      replace hSE := Lib.hid hSE
      replace hce := Lib.hid hce
      clear hcd hbE hSD hBD hBC hea
      go_wp2_with fail
      refine hce.out.mono ?_
      rintro e wF ⟨rfl, hbF⟩
      have hBF : Below w.heap.size w wF := hBE.out.trans (hbF.mono hBE.out.size)
      have hSF := hSE.out.below hbF
      have hPa := past_c _ c zs nm wF (hSH.out.below hBF) hznH.out hdz.out hnm
      rw [hnH.out] at hPa
      replace hBF := Lib.hid hBF
      replace hSF := Lib.hid hSF
      replace hPa := Lib.hid hPa
      clear hce hbF hSE hBE heb
      go_wp2_with fail
      refine hPa.out.mono ?_
      rintro e wG ⟨vg, rfl, hrg, hbG⟩
      have hBG : Below w.heap.size w wG := hBF.out.trans (hbG.mono hBF.out.size)
      have hSG := hSF.out.below hbG
      have hPb := past_c _ co os nm wG hSG (by rw [honH.out]; omega) hdoH.out hnm
      rw [honH.out] at hPb
      replace hBG := Lib.hid hBG
      replace hSG := Lib.hid hSG
      replace hPb := Lib.hid hPb
      replace hrg := Lib.hid hrg
      clear hPa hbG hSF hBF
      go_wp2_with fail
      refine hPb.out.mono ?_
      rintro e wH ⟨vh, rfl, hrh, hbH⟩
      have hBH : Below w.heap.size w wH := hBG.out.trans (hbH.mono hBG.out.size)
      have hSH2 := hSG.out.below hbH
      obtain ⟨P, hp1', hp2', hPl⟩ := rising_two (zs := zs) hrg.out hrh (fun s => ⟨Reach.congr fun x hx => (nds_mem hpermH.out x).2 hx, Reach.congr fun x hx => (nds_mem hpermH.out x).1 hx⟩) hnm1H.out
      have hp1'' := srow_below hp1' hbH
      obtain ⟨Ag, cg, hvg⟩ := hp1''.shape
      obtain ⟨Ah, chh, hvh⟩ := hp2'.shape
      subst hvg hvh
      have hsm2 := same_c Ag Ah cg chh P P wH (SRow.rat hp1'').1 (SRow.rat hp2').1 (by rw [hnH.out] at hPl; omega) (by rw [hnH.out] at hPl; omega) true (by simp)
      obtain ⟨nP, hnP⟩ : ∃ nP, nP = P.length := ⟨_, rfl⟩
      rw [← hnP] at hsm2 ⊢
      replace hBH := Lib.hid hBH
      replace hSH2 := Lib.hid hSH2
      replace hsm2 := Lib.hid hsm2
      clear hrg hrh hp1' hp1'' hp2' hbH hPl hnP hPb hSG hBG
      go_wp2_with fail
      refine hsm2.out.mono ?_
      rintro e wI ⟨rfl, q2, rfl⟩
      have hBI := below_drewN hBH.out q2
      have hSI := hSH2.out.below (below_drewN (Below.refl _ _) q2)
      have hHa := heads_c _ c zs (wH.drewN q2) (hSH.out.below hBI) hznH.out hdz.out
      rw [hnH.out] at hHa
      replace hBI := Lib.hid hBI
      replace hSI := Lib.hid hSI
      replace hHa := Lib.hid hHa
      clear hsm2 hSH2
      go_wp2_with fail
      refine hHa.out.mono ?_
      rintro e wJ ⟨vj, rfl, hrj, hbJ⟩
      have hBJ : Below w.heap.size w wJ := hBI.out.trans (hbJ.mono hBI.out.size)
      have hSJ := hSI.out.below hbJ
      have hHb := heads_c _ co os wJ hSJ (by rw [honH.out]; omega) hdoH.out
      rw [honH.out] at hHb
      replace hBJ := Lib.hid hBJ
      replace hHb := Lib.hid hHb
      replace hrj := Lib.hid hrj
      clear hHa hbJ hSI hBI hBH hSJ
      go_wp2_with fail
      refine hHb.out.mono ?_
      rintro e wK ⟨vk, rfl, hrk, hbK⟩
      have hBK : Below w.heap.size w wK := hBJ.out.trans (hbK.mono hBJ.out.size)
      obtain ⟨R, hr1', hr2', hRl⟩ := rising_two (zs := zs) hrj.out hrk (fun s => ⟨Head.congr fun x => (nds_mem hpermH.out x).symm, Head.congr fun x => nds_mem hpermH.out x⟩) hhm1H.out
      have hr1'' := srow_below hr1' hbK
      obtain ⟨Aj, cj, hvj⟩ := hr1''.shape
      obtain ⟨Ak, ck, hvk⟩ := hr2'.shape
      subst hvj hvk
      have hsm3 := same_c Aj Ak cj ck R R wK (SRow.rat hr1'').1 (SRow.rat hr2').1 (by rw [hnH.out] at hRl; omega) (by rw [hnH.out] at hRl; omega) true (by simp)
      obtain ⟨nR, hnR⟩ : ∃ nR, nR = R.length := ⟨_, rfl⟩
      rw [← hnR] at hsm3 ⊢
      replace hBK := Lib.hid hBK
      replace hsm3 := Lib.hid hsm3
      clear hrj hrk hr1' hr1'' hr2' hbK hRl hnR hHb hBJ
      go_wp2_with fail
      refine hsm3.out.mono ?_
      rintro e wL ⟨rfl, q3, rfl⟩
      go_wp2_with fail
      go_ret
      exact ⟨rfl, below_drewN hBK.out q3⟩
    · obtain ⟨i, rfl⟩ : ∃ i, j = i + 1 := ⟨j - 1, by omega⟩
      have hij : (((i + 1 : Nat) : Int) - 1) = (i : Int) := by omega
      rw [hij]
      clear hij
      obtain ⟨t, ht⟩ : ∃ t : Nat, (i + k) % n = t := ⟨_, rfl⟩
      have htn : t < n := by rw [← ht]; exact Nat.mod_lt _ (by omega)
      have hx1 : (wrap64 ((i : Int) + (k : Int))).tmod (n : Int) = (t : Int) := by
        rw [← ht]
        have : wrap64 ((i : Int) + (k : Int)) = ((i + k : Nat) : Int) := by unfold wrap64; omega
        rw [this]; rfl
      have hx2 : ((i : Int) + (k : Int)).tmod (n : Int) = (t : Int) := by
        rw [← ht, ← Int.natCast_add]; rfl
      have htz : t < zs.length := by rw [hnH.out]; exact htn
      obtain ⟨b', o', hA, c0, c1, c2, c3⟩ := (hSH.out.below (hb2w.out.trans (hB.mono hb2w.out.size))).get t htz
      cases hA
      obtain ⟨x, hx⟩ : ∃ x, x = zs[t] := ⟨_, rfl⟩
      rw [← hx] at c0 c1 c2 c3
      have hra := rot_at (zs := zs) (k := k) (i := i) (t := t) (by rw [hnH.out]; exact hp2) (by rw [hnH.out]; omega) (by rw [hnH.out]; exact ht) htz
      have hdr : ((rot zs k).drop i).reverse = ((rot zs k).drop (i + 1)).reverse ++ [x] := by
        rw [List.drop_eq_getElem_cons (by rw [rot_len, hnH.out]; omega), List.reverse_cons, hra, hx]
      have hws := hB.size
      have hnij : n - (i + 1) ≤ 1000000 := by omega
      obtain ⟨m, hm⟩ : ∃ m, n - (i + 1) = m := ⟨_, rfl⟩
      rw [hm] at hml hnij hrow ⊢
      replace hx := Lib.hid hx
      replace hdr := Lib.hid hdr
      replace hrow := Lib.hid hrow
      replace hB := Lib.hid hB
      replace hml := Lib.hid hml
      replace hm := Lib.hid hm
      replace ht := Lib.hid ht
      clear hra
      go_wp2_with (at_builtin; go_loud (refine nx_app (base := w2.heap.size) (x := x) rfl _ _ 22 rfl Tryd.underlying22 rfl m 1 wr.heap.size rfl rfl hrow.out hml.out (by omega) hws ?_; intro v3 w3 hr3 hg3 hl3; replace hr3 := Lib.hid hr3; replace hg3 := Lib.hid hg3; replace hl3 := Lib.hid hl3))
      go_roundw
      case rel => exact ⟨i, by omega, by go_num, by rw [hdr.out]; exact hr3.out, below_grew hB.out hws hg3.out (fun q hq => (hrow.out.lt q hq).1)⟩
      case measure => simp [intOf]
end Go.Proofs.YtalkhiggapbfjaaDoor.Orp
namespace Go.Proofs.YtalkhiggapbfjaaDoor.Orp
open Go Go.RowKit Go.WideShapes Go.ChangeShapes Go.Proofs.YtalkhiggapbfjaaDoor.B
set_option maxRecDepth 100000 in
theorem turned_any {H : Type} {enc : TypeId × Value → H} (v : Value) (a : Int) (nm : ByteArray) (w : World) {d : DataW H} {ps : List MemPlace} {base : Nat} (hE : Err.ErrT w)
    (hv : Value.okWide Tryd.prog w .any base 22 v) (h : DataW.Trod enc Tryd.prog w 0 (fun _ => true) true 22 v d ps) (hw : ∀ n ∈ d.weights Tryd.prog 22, n ≤ reachBytes) (hnm : nm.size ≤ 140737488351232) :
    Calls Tryd.prog 3 #[v, .int .i64 a, .string nm] w (YesP w) := by
  obtain ⟨A, c, zs, rfl, hS⟩ := set_open v w hv h hw
  exact turned_c A c zs a nm w hS hE hnm
end Go.Proofs.YtalkhiggapbfjaaDoor.Orp
