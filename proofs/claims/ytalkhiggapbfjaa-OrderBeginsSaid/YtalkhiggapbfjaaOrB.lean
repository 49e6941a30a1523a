/- The row OrderParts of layer 6: its walk. -/
import Derived.Test.YtalkhiggapbfjaaOrA
import Derived.Test.YtalkhiggapbfjaaOrO
import Derived.Maps.AppendAt
set_option linter.unusedVariables false
set_option linter.unusedSimpArgs false
namespace Go.Proofs.Ytalkhiggapbfjaa.Orp
open Go Go.RowKit Go.Proofs.Ytalkhiggapbfjaa.B Go.Proofs.Ytalkhiggapbfjaa.St Go.Proofs.Ytalkhiggapbfjaa.Mp
open Go.Proofs.Ytalkhiggapbfjaa.Hp (ltB le tob ltB_iff)
def YesP (w : World) (e : Ending) (w' : World) : Prop := e = .returned (.bool true) ∧ Below w.heap.size w w'
/-- n, turned into a place. -/
def pIx (n : Nat) (a : Int) : Nat := ((a.tmod n + n).tmod n).toNat
theorem pIx_eq (n : Nat) (h : 0 < n) (hn : n ≤ 1000000) (a : Int) : (wrap64 (a.tmod n + n)).tmod n = (pIx n a : Int) ∧ pIx n a < n := by
  have h1 : -(n : Int) < a.tmod n := Int.lt_tmod_of_pos a (by omega)
  have h2 : a.tmod n < n := Int.tmod_lt_of_pos a (by omega)
  have e : wrap64 (a.tmod n + n) = a.tmod n + n := by
    generalize a.tmod n = z at *
    unfold wrap64
    omega
  have h3 : 0 ≤ (a.tmod n + n).tmod n := Int.tmod_nonneg _ (by omega)
  have h4 : (a.tmod n + n).tmod n < n := Int.tmod_lt_of_pos _ (by omega)
  rw [e]
  unfold pIx
  generalize (a.tmod n + n).tmod n = z at *
  omega
/-- A slice of texts behind another. -/
theorem str_cat {ops : Array Oper} {rest : List Oper} {o : Oper} {a : Act} {Q : Exit → Act → World → Prop} {base : Nat} {w : World} {v : Value} {l m : List ByteArray} (hgd : o.guard = none) (s y : Operand) (t : TypeId)
    (ho : o.op = .call { callee := .builtin .append, args := #[s, y], argTypes := #[t, t] }) (ht : Try.prog.underlying t = some (.slice 9))
    (hs : a.eval s = v) (g k c : Nat) (hx : a.eval y = .slice (some ⟨g, 0, none⟩) k c) (hk : k = m.length) (hm : RAt w (some ⟨g, 0, none⟩) m) (hrow : SRow base w v l) (n : Nat) (hn : l.length = n) (hb : n + k ≤ 1000000) (hbase : base ≤ w.heap.size)
    (h : ∀ v' w', SRow base w' v' (l ++ m) → Grew v w w' → (v'.ownBlock = v.ownBlock ∨ v'.ownBlock = some w.heap.size) → wpList Try.prog ops Q rest (a.put o.dst v') w') :
    wpList Try.prog ops Q (o :: rest) a w := by
  subst hk
  subst hn
  obtain ⟨iF, hiF, hzF, hsF, hbF⟩ := infoS
  have hown := hrow
  unfold SRow at hown
  refine wpList_append_own_at _ hgd s y t ho base 9 iF _ 1 16 ht hiF hzF hsF hbF rfl (by omega) v l.length _ hs hown ⟨g, 0, none⟩ m.length c (m.map fun s => .string s) hx (by simp) (fun j u hu => ?_) (fun u hu => by obtain ⟨x, _, rfl⟩ := List.mem_map.1 hu; rfl) (by unfold maxLen; omega) (by omega) hbase ?_
  · obtain ⟨hj, hu'⟩ := List.getElem?_eq_some_iff.1 hu
    have hj' : j < m.length := by simpa using hj
    obtain ⟨b, o', e, hc⟩ := hm (by omega)
    cases e
    rw [add0, ← hu']
    simpa [List.getD_eq_getElem?_getD, List.getElem?_eq_getElem hj'] using hc j hj'
  · intro v' w' hown' hgrow _ hat
    refine h v' w' ?_ ⟨hgrow.size, hgrow.os, hgrow.tape, hgrow.output, fun k h1 h2 => hgrow.block k h1 h2⟩ hat
    unfold SRow
    rw [List.map_append, List.length_append]
    exact hown'
theorem drop_is {l : List ByteArray} (hl : l.Nodup) (n : Nat) : (l.filter fun s => !inB (l.take n) s) = l.drop n := by
  rw [← filter_drop hl n]
  exact List.filter_congr fun s _ => by rw [Bool.eq_iff_iff]; simp only [Bool.not_eq_true', Bool.eq_false_iff, ne_eq, inB_iff, List.contains_iff_mem]
/-- A row made here, as one that came in. -/
theorem tat_of {base : Nat} {w : World} {A : Option Addr} {n c : Nat} {l : List ByteArray} (h : SRow base w (.slice A n c) l) (hs : ∀ x ∈ l, x.size ≤ 140737488351232) (hl : l.length ≤ 1000000) : TAt w A c l := by
  refine ⟨?_, by omega, hs, (SRow.rat h).1⟩
  rcases h.form with ⟨e, rfl⟩ | ⟨g', cap, cur, e, _, _, h4, _⟩
  · exact Nat.zero_le _
  · cases e; exact h4
theorem lin_sizes {w : World} {A : Option Addr} {c : Nat} {zs : List Nx} {l : List ByteArray} (hS : SetAt w A c zs) (hl : Lin ltB (nds zs) l) : ∀ x ∈ l, x.size ≤ 140737488351232 := by
  intro x hx
  obtain ⟨y, hy, rfl⟩ := hl.1.names x hx
  obtain ⟨z, hz, rfl⟩ := nds_nd hy
  exact (hS.2.2.2 z hz).1
set_option maxRecDepth 100000 in
set_option maxHeartbeats 1000000 in
theorem parts_c (A : Option Addr) (c : Nat) (zs : List Nx) (nv : Int) (w : World) (hS : SetAt w A c zs) (hn : (Lit.int .i64 nv).wf = true) : Calls Try.prog 4 #[.slice A zs.length c, .int .i64 nv] w (YesP w) := by
  have hSH := Lib.hid hS
  clear hS
  go_enter Try.func4, Try.ntmps4
  go_wp2_with fail
  refine (awake_c w).mono ?_
  rintro e w1 ⟨rfl, hb1⟩
  replace hb1 := Lib.hid hb1
  go_wp2_with fail
  refine (small_c A c zs w1 (hSH.out.below hb1.out)).mono ?_
  rintro e w2 ⟨he, hb2⟩
  obtain ⟨sb, hsb⟩ : ∃ sb, sb = SmallB zs := ⟨_, rfl⟩
  rw [← hsb] at he
  subst he
  have hb2w : Below w.heap.size w w2 := hb1.out.trans (hb2.mono hb1.out.size)
  clear hb1 hb2
  replace hb2w := Lib.hid hb2w
  cases sb
  · clear hsb
    go_wp2_with fail
    go_ret
    exact ⟨rfl, hb2w.out⟩
  have hsm : zs.length ≤ 60 ∧ depSum zs ≤ 400 := by unfold SmallB at hsb; simpa using hsb.symm
  have hdz : ∀ z ∈ zs, z.deps.length ≤ 1000 := fun z hz => by have := depSum_mem hz; omega
  have hL := linear2_c A c zs w2 (hSH.out.below hb2w.out) (by omega) hdz
  clear hsb
  replace hsm := Lib.hid hsm
  replace hdz := Lib.hid hdz
  go_wp2_with fail
  refine hL.mono ?_
  rintro e w3 ⟨v, er, rfl, hr, hb3⟩
  have hb3w : Below w.heap.size w w3 := hb2w.out.trans (hb3.mono hb2w.out.size)
  have hbs : w.heap.size ≤ w2.heap.size := hb2w.out.size
  clear hL
  replace hb3w := Lib.hid hb3w
  rcases hr with ⟨hnd, rfl, rfl⟩ | ⟨hnd, l, hl, ⟨hlt, rfl, rfl⟩ | ⟨hle, rfl, hrow⟩⟩
  · clear hnd hb3 hb2w
    go_wp2_with fail
    go_ret
    exact ⟨rfl, hb3w.out⟩
  · clear hl hlt hnd hb3 hb2w
    go_wp2_with fail
    go_ret
    exact ⟨rfl, hb3w.out⟩
  obtain ⟨Al, cl, rfl⟩ := hrow.shape
  obtain ⟨n, hn'⟩ : ∃ n, l.length = n := ⟨_, rfl⟩
  rw [hn'] at hrow ⊢
  have hlinH := Lib.hid hl
  have hndH := Lib.hid hnd
  have hrowH := Lib.hid hrow
  have hleH := Lib.hid hle
  have hn'H := Lib.hid hn'
  clear hl hnd hrow hle hn' hb3 hb2w
  by_cases h0 : n = 0
  · subst h0
    go_wp2_with fail
    go_ret
    exact ⟨rfl, hb3w.out⟩
  have hn60 : n ≤ 60 := by have := hsm.out.1; have := hleH.out; have := hn'H.out; omega
  obtain ⟨g, hg, -⟩ := hrowH.out.addr (by omega)
  subst hg
  have hcap : n ≤ cl ∧ cl ≤ maxLen := by
    rcases hrowH.out.form with ⟨e, _⟩ | ⟨g', cap, cur, e, _, _, h4, h5, _⟩
    · cases e
    · cases e; rw [hn'H.out] at h4; exact ⟨h4, h5⟩
  obtain ⟨hc1, hc2⟩ := hcap
  unfold maxLen at hc2
  have h0b : ((n : Int) == 0) = false := by simpa using (show ¬ (n : Int) = 0 by omega)
  obtain ⟨hp1, hp2⟩ := pIx_eq n (by omega) (by omega) nv
  obtain ⟨p, hp⟩ : ∃ p, p = pIx n nv := ⟨_, rfl⟩
  rw [← hp] at hp1 hp2
  clear hp
  have hn'e := hn'H.out
  have hsrc : RAt (w3.alloc (.cells #[] 9)) (some ⟨g, 0, none⟩) (l.take p) := by
    have h1 := (SRow.rat (SRow.alloc hrowH.out (.cells #[] 9))).1 (by omega)
    obtain ⟨b, o, e, hc⟩ := h1
    refine fun h0 => ⟨b, o, e, fun j hj => ?_⟩
    rw [List.length_take] at hj
    rw [hc j (by omega), List.getD_eq_getElem?_getD, List.getD_eq_getElem?_getD, List.getElem?_take, if_pos (by omega)]
  have htk : p = (l.take p).length := by rw [List.length_take]; omega
  have hsrcH := Lib.hid hsrc
  have htkH := Lib.hid htk
  clear hn'e hsrc htk
  go_wp2_with (at_builtin; go_loud (refine str_cat (base := w3.heap.size) (l := []) (m := l.take p) (by rfl) _ _ 25 (by rfl) Try.underlying25 (by rfl) g p cl (by rfl) htkH.out hsrcH.out (SRow.empty (Nat.le_refl _) (heap_alloc_at w3 _)) 0 rfl (by omega) (by rw [St.size_alloc]; omega) ?_; intro v4 w4 hr4 hg4 ha4))
  have hb4w : Below w.heap.size w w4 := below_grew (hb3w.out.alloc hb3w.out.size _) (by rw [St.size_alloc]; have := hb3w.out.size; omega) hg4 (fun k hk => by cases hk; exact hb3w.out.size)
  have hl4 : SRow w2.heap.size w4 (.slice (some ⟨g, 0, none⟩) n cl) l := hrowH.out.same fun b hb => by
    cases hb
    have hgl := (hrowH.out.lt g rfl).2
    exact (hg4.2.2.2.2 g (by rw [St.size_alloc]; omega) (fun e => by have : g = w3.heap.size := Option.some.inj e; omega)).trans (heap_alloc_lt _ _ _ hgl)
  have hbl4 : ∀ q, v4.ownBlock = some q → q ≠ g := by
    intro q hq
    have := (hrowH.out.lt g rfl).2
    rcases ha4 with h | h
    · rw [h] at hq; have : w3.heap.size = q := Option.some.inj hq; omega
    · rw [h] at hq; have : (w3.alloc _).heap.size = q := Option.some.inj hq; rw [St.size_alloc] at this; omega
  have hs34 : w3.heap.size ≤ w4.heap.size := by have := hg4.1; rw [St.size_alloc] at this; omega
  rw [List.nil_append] at hr4
  obtain ⟨A4, c4, hv4⟩ := hr4.shape
  rw [← htkH.out] at hv4
  subst hv4
  have hsz := lin_sizes hSH.out hlinH.out
  have hT4 : TAt w4 A4 c4 (l.take p) := tat_of hr4 (fun x hx => hsz x (List.mem_of_mem_take hx)) (by rw [← htkH.out]; omega)
  have hM := missing_c A c zs A4 c4 (l.take p) w4 (hSH.out.below hb4w) (by have := hsm.out.1; omega) hdz.out hT4
  rw [← htkH.out] at hM
  replace hb4w := Lib.hid hb4w
  replace hl4 := Lib.hid hl4
  replace hbl4 := Lib.hid hbl4
  replace hr4 := Lib.hid hr4
  clear hT4 hsz hg4 ha4 hsrcH
  refine hM.mono ?_
  rintro e w5 ⟨v5, er5, rfl, hres, hb5⟩
  clear hM
  obtain ⟨he5, hr5⟩ : er5 = .nilIface ∧ SRow w4.heap.size w5 v5 (l.drop p) := by
    rcases hres with ⟨hn', _⟩ | ⟨_, l', hl', ⟨hlt, _⟩ | ⟨_, he, hr⟩⟩
    · exact absurd hndH.out hn'
    · rw [hl'.uniq Hp.tob hlinH.out] at hlt
      exact absurd hleH.out (by omega)
    · refine ⟨he, ?_⟩
      rw [hl'.uniq Hp.tob hlinH.out, drop_is hlinH.out.1.nodup] at hr
      exact hr
  subst he5
  obtain ⟨A5, c5, hv5⟩ := hr5.shape
  have hdl : (l.drop p).length = n - p := by rw [List.length_drop, hn'H.out]
  rw [hdl] at hv5
  subst hv5
  have hb5w : Below w.heap.size w w5 := hb4w.out.trans (hb5.mono hb4w.out.size)
  have hr45 : SRow w3.heap.size w5 (.slice A4 p c4) (l.take p) := hr4.out.same fun b hb => hb5.block b (hr4.out.lt b hb).2
  have hl5 : SRow w2.heap.size w5 (.slice (some ⟨g, 0, none⟩) n cl) l := hl4.out.same fun b hb => hb5.block b (hl4.out.lt b hb).2
  have hdis : ∀ q, (Value.slice A4 p c4).ownBlock = some q → (Value.slice A5 (n - p) c5).ownBlock ≠ some q := fun q hq e => by
    have h1 := (hr4.out.lt q hq).2
    have h2 := (hr5.lt q e).1
    omega
  replace hb5w := Lib.hid hb5w
  replace hr45 := Lib.hid hr45
  replace hl5 := Lib.hid hl5
  replace hr5 := Lib.hid hr5
  replace hdis := Lib.hid hdis
  have hbs5 : w3.heap.size ≤ w5.heap.size ∧ w.heap.size ≤ w3.heap.size := ⟨Nat.le_trans hs34 hb5.size, hb3w.out.size⟩
  clear hb5 hres hdl
  go_wp2_with fail
  have hsam := same_c A5 (some ⟨g, p, none⟩) c5 (cl - p) (l.drop p) (l.drop p) w5 (SRow.rat hr5.out).1 (fun h0 => by
    refine ⟨g, p, rfl, fun j hj => ?_⟩
    rw [List.length_drop] at hj
    rw [hl5.out.at (p + j) (by omega), List.getD_eq_getElem?_getD, List.getD_eq_getElem?_getD, List.getElem?_drop]) (by rw [List.length_drop, hn'H.out]; omega) (by rw [List.length_drop, hn'H.out]; omega) true (by simp)
  rw [List.length_drop, hn'H.out] at hsam
  refine hsam.mono ?_
  rintro e w6 ⟨rfl, q, rfl⟩
  clear hsam
  go_wp2_with fail
  go_loopw [7, 65] (fun hv iv wr => ∃ i : Nat, i ≤ n - p ∧ iv = .int .i64 i ∧ SRow w3.heap.size wr hv (l.take (p + i)) ∧ Below w.heap.size w wr ∧ SRow w4.heap.size wr (.slice A5 (n - p) c5) (l.drop p) ∧ (∀ q, hv.ownBlock = some q → (Value.slice A5 (n - p) c5).ownBlock ≠ some q) ∧ w3.heap.size ≤ wr.heap.size) (fun _ iv _ => n - p - (intOf iv).toNat)
  case atStart => exact ⟨0, Nat.zero_le _, rfl, hr45.out.same fun _ _ => rfl, below_drewN hb5w.out q, hr5.out.same fun _ _ => rfl, hdis.out, hbs5.1⟩
  case round =>
    obtain ⟨i, hi, rfl, hrh, hB, hrr, hds, hwrs⟩ := hrel
    obtain ⟨Ah, ch, hv⟩ := hrh.shape
    have hml : (l.take (p + i)).length = p + i := by rw [List.length_take, hn'H.out]; omega
    rw [hml] at hv
    subst hv
    by_cases hlt : i < n - p
    · obtain ⟨g5, hg5, -⟩ := hrr.addr (by omega)
      subst hg5
      have hcs := hrr.at i (by rw [List.length_drop, hn'H.out]; exact hlt)
      obtain ⟨s, hs⟩ : ∃ s, s = (l.drop p).getD i ByteArray.empty := ⟨_, rfl⟩
      rw [← hs] at hcs
      obtain ⟨m, hm⟩ : ∃ m, m = p + i := ⟨_, rfl⟩
      rw [← hm] at hml hrh ⊢
      have hmn : m < n := by omega
      have hsl : ∀ h : m < l.length, l[m] = s := fun h => by
        rw [hs, List.getD_eq_getElem?_getD, List.getElem?_drop, ← hm, List.getElem?_eq_getElem h]; rfl
      replace hs := Lib.hid hs
      replace hm := Lib.hid hm
      replace hsl := Lib.hid hsl
      replace hml := Lib.hid hml
      replace hrh := Lib.hid hrh
      replace hB := Lib.hid hB
      replace hrr := Lib.hid hrr
      replace hds := Lib.hid hds
      clear hr45 hr5 hdis hl4 hb4w hbl4 hl5 hb5w
      have hz60 : zs.length ≤ 60 := hsm.out.1
      obtain ⟨wo, hwo⟩ : ∃ wo, wo = wr := ⟨_, rfl⟩
      subst hwo
      go_wp2_with fail
      have hlo := (hrh.out).lt
      go_loopw [71] (fun iv w' => ∃ k : Nat, k ≤ zs.length ∧ iv = .int .i64 k ∧ Below wo.heap.size wo w') (fun iv _ => zs.length - (intOf iv).toNat)
      case atStart => exact ⟨0, Nat.zero_le _, rfl, Below.refl _ _⟩
      case round =>
        obtain ⟨k, hk, rfl, hB2⟩ := hrel
        obtain ⟨wi, hwi⟩ : ∃ wi, wi = wr := ⟨_, rfl⟩
        subst hwi
        have hBq : Below w.heap.size w wi := hB.out.trans (hB2.mono hB.out.size)
        by_cases hkl : k < zs.length
        · obtain ⟨b, o, hA, c0, c1, c2, c3⟩ := (hSH.out.below hBq).get k hkl
          obtain ⟨x, hx⟩ : ∃ x, x = zs[k] := ⟨_, rfl⟩
          rw [← hx] at c0 c1 c2 c3
          subst hA
          have hxm : x ∈ zs := by rw [hx]; exact List.getElem_mem _
          have hxD := (hSH.out.2.2.2 x hxm).2
          have hdl := hdz.out x hxm
          replace hxm := Lib.hid hxm
          replace hxD := Lib.hid (hxD.below hBq)
          replace hx := Lib.hid hx
          have hBH := Lib.hid (fun o => hB2.alloc hB2.size o)
          replace hB2 := Lib.hid hB2
          replace hBq := Lib.hid hBq
          by_cases hxs : x.nm = s
          · have hq := tl_true hxs
            replace hxs := Lib.hid hxs
            go_wp2_with fail
            go_loopw [83] (fun iv w' => ∃ j : Nat, j ≤ x.deps.length ∧ iv = .int .i64 j ∧ Below wo.heap.size wo w') (fun iv _ => x.deps.length - (intOf iv).toNat)
            case atStart => exact ⟨0, Nat.zero_le _, rfl, hBH.out _⟩
            case round =>
              obtain ⟨j, hj, rfl, hB3⟩ := hrel
              by_cases hjl : j < x.deps.length
              · have hB3w : Below w.heap.size w wr := hB.out.trans (hB3.mono hB.out.size)
                have hxw := (hSH.out.2.2.2 x hxm.out).2.below hB3w
                obtain ⟨bd, od, hD, hcd⟩ := hxw.2.2.2 (by omega)
                have cd := hcd j hjl
                rw [hD]
                obtain ⟨d, hd⟩ : ∃ d, d = x.deps.getD j ByteArray.empty := ⟨_, rfl⟩
                rw [← hd] at cd
                have hdm : d ∈ x.deps := by
                  rw [hd, List.getD_eq_getElem?_getD, List.getElem?_eq_getElem hjl]
                  exact List.getElem_mem _
                have hbeh : d ∈ l.take m := hlinH.out.1.behind (nm_inj (show ((nds zs).map Nd.nm).Nodup by rw [names_nds]; exact hndH.out)) (x := x.nd) (List.mem_map.2 ⟨x, hxm.out, rfl⟩) (k := m) (by rw [hn'H.out]; exact hmn) ((hsl.out _).trans hxs.out.symm) d hdm
                have hrw : SRow w3.heap.size wr (.slice Ah m ch) (l.take m) := hrh.out.same fun b hb => hB3.block b (hrh.out.lt b hb).2
                have hpl := place_c Ah ch (l.take m) d wr (SRow.rat hrw).1 (by rw [hml.out]; omega)
                rw [hml.out] at hpl
                have hplH := Lib.hid hpl
                replace hbeh := Lib.hid hbeh
                replace hd := Lib.hid hd
                have hDH := Lib.hid hD
                replace hB3 := Lib.hid hB3
                clear hpl hrw hdm hcd hxw hB3w hD
                go_wp2_with fail
                refine hplH.out.mono ?_
                rintro e w7 ⟨z, rfl, hz, hz1, hz2, rfl⟩
                have hz0 := hz.2 hbeh.out
                clear hz
                go_wp2_with fail
                go_roundw
                case rel => exact ⟨j + 1, by omega, by go_num, hB3.out⟩
                case measure => simp [intOf]; omega
              · obtain rfl : j = x.deps.length := by omega
                replace hB3 := Lib.hid hB3
                go_wp2_with fail
                go_roundw
                case rel => exact ⟨k + 1, by omega, by go_num, hB3.out⟩
                case measure => simp [intOf]; omega
          · have hq := tl_false hxs
            clear hxs
            go_wp2_with fail
            go_roundw
            case rel => exact ⟨k + 1, by omega, by go_num, hBH.out _⟩
            case measure => simp [intOf]; omega
        · obtain rfl : k = zs.length := by omega
          replace hB2 := Lib.hid hB2
          replace hBq := Lib.hid hBq
          have hrw : SRow w3.heap.size wi (.slice Ah m ch) (l.take m) := hrh.out.same fun b hb => hB2.out.block b (hrh.out.lt b hb).2
          have hwis : w3.heap.size ≤ wi.heap.size := Nat.le_trans hwrs hB2.out.size
          replace hrw := Lib.hid hrw
          go_wp2_with (at_builtin; go_loud (refine str_app rfl _ _ 25 rfl Try.underlying25 rfl m 1 rfl hrw.out hml.out (by omega) hwis ?_; intro g6 cap6 w6 hr6 hg6 hl6; replace hr6 := Lib.hid hr6; replace hg6 := Lib.hid hg6; replace hl6 := Lib.hid hl6))
          go_roundw
          case rel =>
            have hwi5 := hB2.out.size
            refine ⟨i + 1, by omega, by go_num, ?_, below_grew hBq.out hBq.out.size hg6.out (fun q hq => Nat.le_trans hbs5.2 (hrw.out.lt q hq).1), ?_, ?_, Nat.le_trans hwis hg6.out.1⟩
            · have := hr6.out
              have e : l.take (p + (i + 1)) = l.take m ++ [s] := by
                rw [show p + (i + 1) = m + 1 by rw [hm.out]; omega, List.take_succ_eq_append_getElem (by rw [hn'H.out]; exact hmn), hsl.out]
              rw [e]
              exact this
            · refine hrr.out.same fun b hb => ?_
              have hbw := (hrr.out.lt b hb).2
              exact (hg6.out.2.2.2.2 b (Nat.lt_of_lt_of_le hbw hwi5) (fun e => hds.out b (by rw [← hm.out]; exact e.symm) hb)).trans (hB2.out.block b hbw)
            · intro q hq e
              obtain rfl : g6 = q := Option.some.inj hq
              rcases hl6.out with h | h
              · exact hds.out g6 (by rw [← hm.out]; exact h) e
              · have := (hrr.out.lt g6 e).2
                omega
          case measure => simp [intOf]; omega
    · obtain rfl : i = n - p := by omega
      replace hB := Lib.hid hB
      have hpn : p + (n - p) = n := by omega
      rw [hpn]
      replace hrh := Lib.hid hrh
      replace hrr := Lib.hid hrr
      replace hds := Lib.hid hds
      go_wp2_with fail
      go_ret
      exact ⟨rfl, hB.out⟩
end Go.Proofs.Ytalkhiggapbfjaa.Orp
namespace Go.Proofs.Ytalkhiggapbfjaa.Orp
open Go Go.RowKit Go.WideShapes Go.ChangeShapes Go.Proofs.Ytalkhiggapbfjaa.B
theorem parts_any {H : Type} {enc : TypeId × Value → H} (v : Value) (a : Int) (w : World) {d : DataW H} {ps : List MemPlace} {base : Nat}
    (hv : Value.okWide Try.prog w .any base 22 v) (h : DataW.Trod enc Try.prog w 0 (fun _ => true) true 22 v d ps) (hw : ∀ n ∈ d.weights Try.prog 22, n ≤ reachBytes) (ha : (Lit.int .i64 a).wf = true) :
    Calls Try.prog 4 #[v, .int .i64 a] w (YesP w) := by
  obtain ⟨A, c, zs, rfl, hS⟩ := set_open v w hv h hw
  exact parts_c A c zs a w hS ha
end Go.Proofs.Ytalkhiggapbfjaa.Orp
