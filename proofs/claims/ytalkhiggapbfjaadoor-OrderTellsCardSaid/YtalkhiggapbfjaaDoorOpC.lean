/- The row OrderTells of layer 6: its walk. -/
import Derived.Test.YtalkhiggapbfjaaDoorOpB
import Derived.Test.YtalkhiggapbfjaaDoorOrK
set_option linter.unusedVariables false
set_option linter.unusedSimpArgs false
namespace Go.Proofs.YtalkhiggapbfjaaDoor.Orp
open Go Go.RowKit Go.Proofs.YtalkhiggapbfjaaDoor.B Go.Proofs.YtalkhiggapbfjaaDoor.St Go.Proofs.YtalkhiggapbfjaaDoor.Mp
open Go.Proofs.YtalkhiggapbfjaaDoor.Hp (ltB le tob ltB_iff)
set_option maxRecDepth 100000 in
set_option maxHeartbeats 1000000 in
theorem tells_c (A : Option Addr) (c : Nat) (zs : List Nx) (nm : ByteArray) (B : Option Addr) (d : Nat) (hv : List ByteArray) (w : World) (hS : SetAt w A c zs) (hT : TAt w B d hv) (hE : Err.ErrT w) (hnm : nm.size ≤ 140737488351232) : Calls Tryd.prog 4 #[.slice A zs.length c, .string nm, .slice B hv.length d] w (YesP w) := by
  obtain ⟨n, hn⟩ : ∃ n, zs.length = n := ⟨_, rfl⟩
  obtain ⟨m, hm⟩ : ∃ m, hv.length = m := ⟨_, rfl⟩
  rw [hn, hm]
  have hnH := Lib.hid hn
  have hmH := Lib.hid hm
  have hSH := Lib.hid hS
  have hTH := Lib.hid hT
  have hEH := Lib.hid hE
  have hm64 : m ≤ 140737488351232 := by rw [← hm]; exact hT.2.1
  clear hS hn hE hT hm
  go_enter Tryd.func4, Tryd.ntmps4
  go_wp2_with fail
  refine (awake_c w).mono ?_
  rintro e w1 ⟨rfl, hb1⟩
  replace hb1 := Lib.hid hb1
  go_wp2_with fail
  have hsc := small_c A c zs w1 (hSH.out.below hb1.out)
  rw [hnH.out] at hsc
  refine hsc.mono ?_
  clear hsc
  rintro e w2 ⟨he, hb2⟩
  obtain ⟨sb, hsb⟩ : ∃ sb, sb = SmallB zs := ⟨_, rfl⟩
  rw [← hsb] at he
  subst he
  have hb2w : Below w.heap.size w w2 := hb1.out.trans (hb2.mono hb1.out.size)
  clear hb1 hb2
  replace hb2w := Lib.hid hb2w
  cases sb
  · clear hsb
    go_wp2_with fail
    go_ret
    exact ⟨rfl, hb2w.out⟩
  have hsm : zs.length ≤ 60 ∧ depSum zs ≤ 400 := by unfold SmallB at hsb; simpa using hsb.symm
  have hdz : ∀ z ∈ zs, z.deps.length ≤ 1000 := fun z hz => by have := depSum_mem hz; omega
  have hn60 : n ≤ 60 := by have := hsm.1; have := hnH.out; omega
  clear hsb
  replace hsm := Lib.hid hsm
  replace hdz := Lib.hid hdz
  by_cases hm200 : 200 < m
  · go_wp2_with fail
    go_ret
    exact ⟨rfl, hb2w.out⟩
  go_wp2_with fail
  have hz1 : zs.length ≤ 1000 := by rw [hnH.out]; omega
  have hm1 : m ≤ 1000000 := by omega
  have hL1 := linear2_c A c zs w2 (hSH.out.below hb2w.out) hz1 hdz.out
  rw [hnH.out] at hL1
  refine hL1.mono ?_
  rintro e w3 ⟨va, era, rfl, hra, hb3⟩
  obtain ⟨La, ka, hrA, hqA, heA, hlA⟩ := linq_o hra
  have hB3 : Below w.heap.size w w3 := hb2w.out.trans (hb3.mono hb2w.out.size)
  have hL2 := Lib.hid (linr_c A c zs w3 (hSH.out.below hB3) n hnH.out (by omega) hdz.out)
  obtain ⟨A1, c1, hva⟩ := hrA.shape
  subst hva
  replace hrA := Lib.hid hrA
  replace hqA := Lib.hid hqA
  replace heA := Lib.hid heA
  replace hlA := Lib.hid hlA
  replace hB3 := Lib.hid hB3
  clear hL1 hra hb3
  go_wp2_with fail
  refine hL2.out.mono ?_
  rintro e w4 ⟨vb, kb, rfl, hrb, hb4⟩
  obtain ⟨Lb, hrB, hqB, hlB⟩ := linq_r hrb
  obtain ⟨rfl, rfl⟩ := hqA.out.uniq hqB
  have hB4 : Below w.heap.size w w4 := hB3.out.trans (hb4.mono hB3.out.size)
  have hrA4 := srow_below hrA.out hb4
  obtain ⟨A2, c2, hvb⟩ := hrB.shape
  subst hvb
  have hM1 := missing_c A c zs B d hv w4 (hSH.out.below hB4) hz1 hdz.out (hTH.out.below hB4)
  rw [hnH.out, hmH.out] at hM1
  replace hM1 := Lib.hid hM1
  replace hB4 := Lib.hid hB4
  replace hrA4 := Lib.hid hrA4
  replace hrB := Lib.hid hrB
  clear hrb hb4 hL2 hrA hqB hlB hB3
  go_wp2_with fail
  refine hM1.out.mono ?_
  rintro e w5 ⟨vc, erc, rfl, hrc, hb5⟩
  obtain ⟨Lc, kc, hrC, hqC, heC, hlC⟩ := linq_m hrc
  have hB5 : Below w.heap.size w w5 := hB4.out.trans (hb5.mono hB4.out.size)
  have hrA5 := srow_below hrA4.out hb5
  have hrB5 := srow_below hrB.out hb5
  obtain ⟨A3, c3, hvc⟩ := hrC.shape
  subst hvc
  have hM2 := Lib.hid (missr_c A c zs B d m hv w5 (hSH.out.below hB5) ((hTH.out.below hB5).rat) hmH.out hm1 n hnH.out (by omega) hdz.out)
  replace hB5 := Lib.hid hB5
  replace hrA5 := Lib.hid hrA5
  replace hrB5 := Lib.hid hrB5
  replace hrC := Lib.hid hrC
  replace hqC := Lib.hid hqC
  replace heC := Lib.hid heC
  replace hlC := Lib.hid hlC
  clear hrc hb5 hM1 hrA4 hrB hB4
  go_wp2_with fail
  refine hM2.out.mono ?_
  rintro e w6 ⟨vd, Ld, kd, rfl, hrD, hqD, hlD, hb6⟩
  obtain ⟨rfl, rfl⟩ := hqC.out.uniq hqD
  have hB6 : Below w.heap.size w w6 := hB5.out.trans (hb6.mono hB5.out.size)
  have hrA6 := srow_below hrA5.out hb6
  have hrB6 := srow_below hrB5.out hb6
  have hrC6 := srow_below hrC.out hb6
  obtain ⟨A4, c4, hvd⟩ := hrD.shape
  subst hvd
  have hLa : La.length ≤ 1000000 := by have := hlA.out; omega
  have hLc : (Lc.filter fun s => !inB hv s).length ≤ 1000000 := by have h1 := List.length_filter_le (fun s => !inB hv s) Lc; have := hlC.out; omega
  have hs1 := Lib.hid (same_c A1 A2 c1 c2 La La w6 (SRow.rat hrA6).1 (SRow.rat hrB6).1 hLa hLa true (by simp))
  have hrC6H := Lib.hid hrC6
  have hrDH := Lib.hid hrD
  have hB6H := Lib.hid hB6
  clear hb6 hM2 hrA5 hrB5 hrC hqD hlD hB5 hrA6 hrB6 hrC6 hrD hB6
  go_wp2_with fail
  refine hs1.out.mono ?_
  rintro e w7 ⟨rfl, q1, rfl⟩
  have hB7 := below_drewN hB6H.out q1
  have hc1 := Lib.hid (code_c heA.out (w6.drewN q1) (hEH.out.below hB7))
  have hrC7 := Lib.hid (srow_below hrC6H.out (below_drewN (Below.refl _ w6) q1))
  have hrD7 := Lib.hid (srow_below hrDH.out (below_drewN (Below.refl _ w6) q1))
  replace hB7 := Lib.hid hB7
  clear hs1
  go_wp2_with fail
  refine hc1.out.mono ?_
  rintro e w8 ⟨rfl, hb8⟩
  have hB8 : Below w.heap.size w w8 := hB7.out.trans (hb8.mono hB7.out.size)
  have hrC8 := Lib.hid (srow_below hrC7.out hb8)
  have hrD8 := Lib.hid (srow_below hrD7.out hb8)
  have hck := check_c A c zs w8 (hSH.out.below hB8) hz1 hdz.out
  rw [hnH.out] at hck
  replace hck := Lib.hid hck
  replace hB8 := Lib.hid hB8
  clear hc1 hb8 hrC7 hrD7 hB7 hB6H hrC6H hrDH
  go_wp2_with fail
  refine hck.out.mono ?_
  rintro e w9 ⟨ve, ere, rfl, hre, hb9⟩
  obtain ⟨Le, ke, hrE, hqE, heE, hlE⟩ := linq_o hre
  obtain ⟨-, hke⟩ := hqA.out.uniq hqE
  subst hke
  have hB9 : Below w.heap.size w w9 := hB8.out.trans (hb9.mono hB8.out.size)
  have hc2 := Lib.hid (code_c heE w9 (hEH.out.below hB9))
  have hrC9 := Lib.hid (srow_below hrC8.out hb9)
  have hrD9 := Lib.hid (srow_below hrD8.out hb9)
  replace hB9 := Lib.hid hB9
  clear hre hrE hqE heE hlE hb9 hck hrC8 hrD8 hB8
  go_wp2_with fail
  refine hc2.out.mono ?_
  rintro e w10 ⟨rfl, hb10⟩
  have hB10 : Below w.heap.size w w10 := hB9.out.trans (hb10.mono hB9.out.size)
  have hrC10 := srow_below hrC9.out hb10
  have hrD10 := srow_below hrD9.out hb10
  have hs2 := Lib.hid (same_c A3 A4 c3 c4 _ _ w10 (SRow.rat hrC10).1 (SRow.rat hrD10).1 hLc hLc true (by simp))
  replace hB10 := Lib.hid hB10
  clear hc2 hb10 hrC9 hrD9 hrC10 hrD10 hB9
  go_wp2_with fail
  refine hs2.out.mono ?_
  rintro e w11 ⟨rfl, q2, rfl⟩
  have hB11 := below_drewN hB10.out q2
  have hc3 := Lib.hid (code_c heC.out (w10.drewN q2) (hEH.out.below hB11))
  replace hB11 := Lib.hid hB11
  clear hs2
  go_wp2_with fail
  refine hc3.out.mono ?_
  rintro e w12 ⟨rfl, hb12⟩
  have hB12 : Below w.heap.size w w12 := hB11.out.trans (hb12.mono hB11.out.size)
  have hPa := past_c A c zs nm w12 (hSH.out.below hB12) hz1 hdz.out hnm
  rw [hnH.out] at hPa
  replace hPa := Lib.hid hPa
  replace hB12 := Lib.hid hB12
  clear hc3 hb12 hB11 hB10
  go_wp2_with fail
  refine hPa.out.mono ?_
  rintro e w13 ⟨vg, rfl, hrg, hb13⟩
  have hB13 : Below w.heap.size w w13 := hB12.out.trans (hb13.mono hB12.out.size)
  have hPb := Lib.hid (pastr_c A c zs nm w13 (hSH.out.below hB13) n hnH.out (by omega) hdz.out)
  replace hB13 := Lib.hid hB13
  replace hrg := Lib.hid hrg
  clear hPa hb13 hB12
  go_wp2_with fail
  refine hPb.out.mono ?_
  rintro e w14 ⟨vh, rfl, hrh, hb14⟩
  have hB14 : Below w.heap.size w w14 := hB13.out.trans (hb14.mono hB13.out.size)
  obtain ⟨P, hp1, hp2, hPl⟩ := rising_two (zs := zs) hrg.out hrh (fun s => Iff.rfl) (fun s h => there_names.1 h.there)
  have hp1' := srow_below hp1 hb14
  obtain ⟨A5, c5, hvg⟩ := hp1'.shape
  obtain ⟨A6, c6, hvh⟩ := hp2.shape
  subst hvg hvh
  have hs3 := Lib.hid (same_c A5 A6 c5 c6 P P w14 (SRow.rat hp1').1 (SRow.rat hp2).1 (by omega) (by omega) true (by simp))
  replace hB14 := Lib.hid hB14
  clear hrg hrh hp1 hp1' hp2 hb14 hPl hPb hB13
  go_wp2_with fail
  refine hs3.out.mono ?_
  rintro e w15 ⟨rfl, q3, rfl⟩
  have hB15 := below_drewN hB14.out q3
  have hHa := heads_c A c zs (w14.drewN q3) (hSH.out.below hB15) hz1 hdz.out
  rw [hnH.out] at hHa
  replace hHa := Lib.hid hHa
  replace hB15 := Lib.hid hB15
  clear hs3
  go_wp2_with fail
  refine hHa.out.mono ?_
  rintro e w16 ⟨vi, rfl, hri, hb16⟩
  have hB16 : Below w.heap.size w w16 := hB15.out.trans (hb16.mono hB15.out.size)
  have hHb := Lib.hid (headr_c A c zs w16 (hSH.out.below hB16) n hnH.out (by omega) hdz.out)
  replace hB16 := Lib.hid hB16
  replace hri := Lib.hid hri
  clear hHa hb16 hB15 hB14
  go_wp2_with fail
  refine hHb.out.mono ?_
  rintro e w17 ⟨vj, rfl, hrj, hb17⟩
  have hB17 : Below w.heap.size w w17 := hB16.out.trans (hb17.mono hB16.out.size)
  obtain ⟨R, hr1, hr2, hRl⟩ := rising_two (zs := zs) hri.out hrj (fun s => Iff.rfl) (fun s h => there_names.1 h.1)
  have hr1' := srow_below hr1 hb17
  obtain ⟨A7, c7, hvi⟩ := hr1'.shape
  obtain ⟨A8, c8, hvj⟩ := hr2.shape
  subst hvi hvj
  have hs4 := Lib.hid (same_c A7 A8 c7 c8 R R w17 (SRow.rat hr1').1 (SRow.rat hr2).1 (by omega) (by omega) true (by simp))
  replace hB17 := Lib.hid hB17
  clear hri hrj hr1 hr1' hr2 hb17 hRl hHb hB16
  go_wp2_with fail
  refine hs4.out.mono ?_
  rintro e w18 ⟨rfl, q4, rfl⟩
  go_wp2_with fail
  go_ret
  exact ⟨rfl, below_drewN hB17.out q4⟩
end Go.Proofs.YtalkhiggapbfjaaDoor.Orp
namespace Go.Proofs.YtalkhiggapbfjaaDoor.Orp
open Go Go.RowKit Go.WideShapes Go.ChangeShapes Go.Proofs.YtalkhiggapbfjaaDoor.B
set_option maxRecDepth 100000 in
theorem tells_any {H : Type} {enc : TypeId × Value → H} (v : Value) (nm : ByteArray) (u : Value) (w : World) {d d' : DataW H} {ps ps' : List MemPlace} {base base' : Nat} (hE : Err.ErrT w)
    (hv : Value.okWide Tryd.prog w .any base 22 v) (h : DataW.Trod enc Tryd.prog w 0 (fun _ => true) true 22 v d ps) (hw : ∀ n ∈ d.weights Tryd.prog 22, n ≤ reachBytes) (hnm : nm.size ≤ 140737488351232)
    (hv' : Value.okWide Tryd.prog w .any base' 25 u) (h' : DataW.Trod enc Tryd.prog w 0 (fun _ => true) true 25 u d' ps') (hw' : ∀ n ∈ d'.weights Tryd.prog 25, n ≤ reachBytes) :
    Calls Tryd.prog 4 #[v, .string nm, u] w (YesP w) := by
  obtain ⟨A, c, zs, rfl, hS⟩ := set_open v w hv h hw
  have o : Rd.Opens enc Tryd.prog w 25 (Rd.RSl 1 Rd.RStr) := Rd.opens_sl (size := 1) Tryd.underlying25 (by kernel_rfl) (by omega) (of_decide_eq_true (by kernel_rfl)) (Rd.opens_str Tryd.underlying9)
  obtain ⟨xs, hx⟩ := Rd.open_sl_arg Tryd.underlying25 hv' o h' hw'
  obtain ⟨B, cc, rfl⟩ := Rd.sl_form hx
  exact tells_c A c zs nm B cc xs w hS (tat_of_rsl hx).2 hE hnm
end Go.Proofs.YtalkhiggapbfjaaDoor.Orp
