/- order.Past: its walk. -/
import Derived.Test.YtalkhiggapbfjaaDoorOrD
import Derived.Deep.RegionHeldLaw
import Derived.Deep.Upon
import Derived.Laws.EntriesVeiled
set_option linter.unusedVariables false
set_option linter.unusedSimpArgs false
namespace Go.Proofs.YtalkhiggapbfjaaDoor.Orp
open Go Go.RowKit Go.Proofs.YtalkhiggapbfjaaDoor.B Go.Proofs.YtalkhiggapbfjaaDoor.St Go.Proofs.YtalkhiggapbfjaaDoor.Mp
open Go.Proofs.YtalkhiggapbfjaaDoor.Hp (ltB le tob ltB_iff)
theorem SRow.le {base : Nat} {w : World} {A : Option Addr} {n c : Nat} {l : List ByteArray} (h : SRow base w (.slice A n c) l) : l.length ≤ c := by
  rcases h.form with ⟨e, rfl⟩ | ⟨g', cap, cur, e, _, _, h4, _⟩
  · exact Nat.zero_le _
  · cases e; exact h4
/-- A slice of texts behind another, whatever its length. -/
theorem run_cat (w : World) {base : Nat} {v : Value} {l m : List ByteArray} (t ty : TypeId) (ht : Tryd.prog.underlying t = some (.slice 9)) (A : Option Addr) (c : Nat) (hm : RAt w A m) (hrow : SRow base w v l) (hb : l.length + m.length ≤ 10000000) (hbase : base ≤ w.heap.size) :
    ∃ v' w', (Builtin.append_ #[t, t] ty #[v, .slice A m.length c]).run Tryd.prog w = .ok v' w' ∧ SRow base w' v' (l ++ m) ∧ Grew v w w' ∧ (v'.ownBlock = v.ownBlock ∨ v'.ownBlock = some w.heap.size) := by
  obtain ⟨iF, hiF, hzF, hsF, hbF⟩ := infoS
  by_cases h0 : 0 < m.length
  · obtain ⟨b, o, rfl, hc⟩ := hm h0
    have hown := hrow
    unfold SRow at hown
    obtain ⟨v', w', hr, h2, h3, _, h5⟩ := run_append_own_at (P := Tryd.prog) w base t ty 9 iF _ 1 16 ht hiF hzF hsF hbF rfl (by omega) v l.length _ hown ⟨b, o, none⟩ m.length c (m.map fun s => .string s) (by simp) (fun j u hu => by
      obtain ⟨hj, hu'⟩ := List.getElem?_eq_some_iff.1 hu
      have hj' : j < m.length := by simpa using hj
      have : (⟨b, o, none⟩ : Addr).add j = ⟨b, o + j, none⟩ := by unfold Addr.add; split <;> simp_all
      rw [this, ← hu']
      have e := hc j hj'
      rw [List.getD_eq_getElem?_getD, List.getElem?_eq_getElem hj'] at e
      rw [e]
      simp) (fun u hu => by obtain ⟨x, _, rfl⟩ := List.mem_map.1 hu; rfl) (by unfold maxLen; omega) (by omega) hbase
    refine ⟨v', w', hr, ?_, ⟨h3.size, h3.os, h3.tape, h3.output, fun k h1 h2 => h3.block k h1 h2⟩, h5⟩
    unfold SRow
    rw [List.map_append, List.length_append]
    exact h2
  · obtain rfl : m = [] := List.eq_nil_of_length_eq_zero (by omega)
    obtain ⟨Av, cv, rfl⟩ := hrow.shape
    have hs : Src Tryd.prog iF.size t (.slice A 0 c) 0 [] w := by
      cases A with
      | none => exact Src.ofNil w ht c
      | some a => exact Src.ofSlice w ht a 0 c [] (by simp) (fun j u h => by simp at h) (fun u h => by cases h)
    refine ⟨_, w, run_append_nothing w t t ty 9 iF ht hiF Av l.length cv (SRow.le hrow) _ hs, by rw [List.append_nil]; exact hrow, ⟨Nat.le_refl _, rfl, rfl, rfl, fun _ _ _ => rfl⟩, .inl rfl⟩
theorem cat_step {ops : Array Oper} {o : Oper} {a : Act} {K : Act → World → Prop} {Q : Exit → Act → World → Prop} {E : Prop} {base : Nat} {w : World} {v : Value} {l m : List ByteArray} (hgd : o.guard = none) (s y : Operand) (t : TypeId)
    (ho : o.op = .call { callee := .builtin .append, args := #[s, y], argTypes := #[t, t] }) (ht : Tryd.prog.underlying t = some (.slice 9))
    (hs : a.eval s = v) (A : Option Addr) (k c : Nat) (hx : a.eval y = .slice A k c) (hk : m.length = k) (hm : RAt w A m) (hrow : SRow base w v l) (hb : l.length + k ≤ 10000000) (hbase : base ≤ w.heap.size)
    (h : ∀ v' w', SRow base w' v' (l ++ m) → Grew v w w' → (v'.ownBlock = v.ownBlock ∨ v'.ownBlock = some w.heap.size) → K (a.put o.dst v') w') :
    if Region.wanted o (yielded ops a.tmps) = true then Oper.wp Tryd.prog o a w K Q else E := by
  have hw : Region.wanted o (yielded ops a.tmps) = true := by simp [Region.wanted, hgd]
  rw [if_pos hw]
  subst hk
  obtain ⟨v', w', hr, h2, h3, h4⟩ := run_cat w t o.type ht A c hm hrow hb hbase
  unfold Oper.wp execOp
  simp only [ho, resolve, invoke, builtin, Sem.run_bind, Sem.run_pure, Result.andThen_ok, List.map_toArray, List.map_cons, List.map_nil, hs, hx, hr]
  exact h v' w' h2 h3 h4
theorem upd_run {κ : Type} [DecidableEq κ] {lit : κ → Lit} {val : κ → Value} {w : World} {P : Program} {k : TypeId} {b n : Nat} {f : κ → Option Value} (B : KeyBy P k κ lit val) (t e : TypeId) (ht : P.underlying t = some (.map k e)) (h : GMap lit w P k b n f) (hn : n < maxLen) (y : κ) (u : Value) (hkey : keyOf P k (val y) = some (lit y)) :
    ∃ w', (Instr.mapUpdate t (.map (some b)) (val y) u).run P w = .ok () w' ∧ GMap lit w' P k b (n + 1) (upd f y u) ∧ w.mapTurned w' b := by
  obtain ⟨D, hown, hv⟩ := h
  obtain ⟨w', hrun, r1, r2⟩ := hown.store B.K ht hn hkey (val := u) (d := .held u) (ps := []) rfl
  exact ⟨w', hrun, ⟨_, r1, hv.put hown.isMap B.inj (B.K.key hkey) u⟩, r2⟩
theorem depsAll_snoc {zs : List Nx} {k : Nat} (hk : k < zs.length) (y : ByteArray) : depsAll (zs.take (k + 1)) y = if y = zs[k].nm then depsAll (zs.take k) zs[k].nm ++ zs[k].deps else depsAll (zs.take k) y := by
  unfold depsAll
  rw [List.take_succ_eq_append_getElem hk, List.filter_append, List.flatMap_append]
  by_cases e : y = zs[k].nm
  · subst e
    rw [if_pos rfl, List.filter_cons_of_pos (by simp)]
    simp
  · rw [if_neg e, List.filter_cons_of_neg (by simpa using fun h => e h.symm)]
    simp
/-- One name's row longer. -/
theorem deps_next {base U m : Nat} {w w1 w2 : World} {S : ByteArray → Prop} {rows : ByteArray → List ByteArray} {f : ByteArray → Option Value} {d : ByteArray} {ds : List ByteArray} {v' : Value} (hf : GMap slit w Tryd.prog 9 U m f)
    (hs : ∀ d, (f d).isSome = true ↔ S d) (h2 : ∀ d, SRow base w ((f d).getD (.slice none 0 0)) (rows d)) (h3 : ∀ d d', d ≠ d' → ∀ k, ((f d).getD (.slice none 0 0)).ownBlock = some k → ((f d').getD (.slice none 0 0)).ownBlock ≠ some k)
    (hr : SRow base w1 v' (rows d ++ ds)) (hg : Grew ((f d).getD (.slice none 0 0)) w w1) (hl : v'.ownBlock = ((f d).getD (.slice none 0 0)).ownBlock ∨ v'.ownBlock = some w.heap.size)
    (hu : GMap slit w2 Tryd.prog 9 U (m + 1) (upd f d v')) (ht : w1.mapTurned w2 U) : DMap base w2 U (m + 1) (fun y => y = d ∨ S y) (fun y => if y = d then rows d ++ ds else rows y) := by
  have hob := hf.obj
  have hown : ∀ g, v'.ownBlock = some g → ((f d).getD (.slice none 0 0)).ownBlock = some g ∨ g = w.heap.size := by
    intro g hg'
    rcases hl with h | h
    · exact .inl (h ▸ hg')
    · exact .inr (Option.some.inj (hg'.symm.trans h))
  have hgU : ∀ g, v'.ownBlock = some g → g ≠ U := by
    rintro g hg' rfl
    rcases hown g hg' with h | h
    · obtain ⟨cur, hc⟩ := (h2 d).cells g h
      exact map_ne hc hob rfl
    · have := hf.lt; omega
  have hother : ∀ y, y ≠ d → ∀ k, ((f y).getD (.slice none 0 0)).ownBlock = some k → v'.ownBlock ≠ some k ∧ w2.heap[k]? = w.heap[k]? := by
    intro y hy k hk
    have hlt := ((h2 y).lt k hk).2
    refine ⟨fun e => ?_, ?_⟩
    · rcases hown k e with h | h
      · exact h3 y d hy k hk h
      · omega
    · obtain ⟨cur, hc⟩ := (h2 y).cells k hk
      exact (turned_at ht (map_ne hc hob) (Nat.lt_of_lt_of_le hlt hg.1)).trans (hg.2.2.2.2 k hlt (fun e => h3 y d hy k hk e.symm))
  have hval : ∀ y, ((upd f d v') y).getD (.slice none 0 0) = if y = d then v' else (f y).getD (.slice none 0 0) := by
    intro y
    unfold upd
    by_cases e : y = d
    · rw [if_pos e, if_pos e]; rfl
    · rw [if_neg e, if_neg e]
  refine ⟨_, hu, fun y => ?_, fun y => ?_, fun y y' hne k hk => ?_⟩
  · unfold upd
    by_cases e : y = d
    · rw [if_pos e]; simp [e]
    · rw [if_neg e, hs]; simp [e]
  · rw [hval]
    by_cases e : y = d
    · simp only [if_pos e]
      exact hr.same fun k hk => turned_at ht (hgU k hk) (hr.lt k hk).2
    · simp only [if_neg e]
      exact (h2 y).same fun k hk => (hother y e k hk).2
  · rw [hval] at hk ⊢
    by_cases e : y = d
    · have hne' : y' ≠ d := fun e' => hne (e.trans e'.symm)
      rw [if_pos e] at hk
      rw [if_neg hne']
      exact fun hk' => (hother y' hne' k hk').1 hk
    · rw [if_neg e] at hk
      by_cases e' : y' = d
      · rw [if_pos e']
        exact (hother y e k hk).1
      · rw [if_neg e']
        exact h3 y y' hne k hk
theorem DMap.same {base U n : Nat} {w w' : World} {S : ByteArray → Prop} {rows : ByteArray → List ByteArray} (h : DMap base w U n S rows) (hb : ∀ k, k < w.heap.size → w'.heap[k]? = w.heap[k]?) : DMap base w' U n S rows := by
  obtain ⟨f, h1, h2, h3, h4⟩ := h
  exact ⟨f, h1.same (hb _ h1.lt), h2, fun d => (h3 d).same fun k hk => hb k ((h3 d).lt k hk).2, h4⟩
theorem DMap.made (base : Nat) (w : World) : DMap base (w.alloc (.map #[] 0)) w.heap.size 0 (fun _ => False) (fun _ => []) :=
  ⟨fun _ => none, GMap.made slit w _ _, fun d => by simp, fun d => SRow.nil _ _, fun _ _ _ k hk => (by cases hk)⟩
theorem DMap.congr {base U n : Nat} {w : World} {S S' : ByteArray → Prop} {rows rows' : ByteArray → List ByteArray} (h : DMap base w U n S rows) (hS : ∀ d, S d ↔ S' d) (hr : ∀ d, rows d = rows' d) : DMap base w U n S' rows' := by
  obtain ⟨f, h1, h2, h3, h4⟩ := h
  exact ⟨f, h1, fun d => (h2 d).trans (hS d), fun d => (hr d) ▸ h3 d, h4⟩
theorem grew_far {base j : Nat} {w w' : World} {v : Value} {l : List ByteArray} {cur : Array Value} {t : TypeId} {fr : Nat × Nat} (hg : Grew v w w') (h : SRow base w v l) (hj : w.heap[j]? = some (.cells cur t fr)) (ht : t ≠ 9) : w'.heap[j]? = some (.cells cur t fr) := by
  refine hg.heap hj fun e => ?_
  obtain ⟨cur', hc⟩ := h.cells j e.symm
  rw [hj] at hc
  simp only [Option.some.injEq, Obj.cells.injEq] at hc
  exact ht hc.2.1
theorem turned_far {j U : Nat} {w w' : World} {cur : Array Value} {t : TypeId} {fr : Nat × Nat} (h : w.mapTurned w' U) (hU : ∃ es c, w.heap[U]? = some (.map es c)) (hj : w.heap[j]? = some (.cells cur t fr)) : w'.heap[j]? = some (.cells cur t fr) :=
  (turned_at h (map_ne hj hU) (heap_lt hj)).trans hj
def PastPost (zs : List Nx) (nm : ByteArray) (w : World) (e : Ending) (w' : World) : Prop := ∃ v, e = .returned v ∧ Rising w.heap.size w' v (Reach (nds zs) nm) ∧ Below w.heap.size w w'
set_option maxRecDepth 100000 in
set_option maxHeartbeats 1000000 in
theorem past_c (A : Option Addr) (c : Nat) (zs : List Nx) (nm : ByteArray) (w : World) (hS : SetAt w A c zs) (hz : zs.length ≤ 1000) (hd : ∀ z ∈ zs, z.deps.length ≤ 1000) (hnm : nm.size ≤ 140737488351232) :
    Calls Tryd.prog 10 #[.slice A zs.length c, .string nm] w (PastPost zs nm w) := by
  have hmm := @run_makeMap Tryd.prog
  have K0 := keyStr Tryd.underlying9
  have zS : ∀ w, (zeroValue 25).run Tryd.prog w = .ok (.slice none 0 0) w := fun _ => by kernel_rfl
  have hSH := Lib.hid hS
  have hdH := Lib.hid hd
  clear hS hd
  go_enter Tryd.func10, Tryd.ntmps10
  go_wp2_with fail
  go_loopw [13] (fun iv wr => ∃ k : Nat, k ≤ zs.length ∧ iv = .int .i64 k ∧ DMap w.heap.size wr w.heap.size k (fun d => d ∈ (names zs).take k) (depsAll (zs.take k)) ∧ Below w.heap.size w wr ∧ wr.heap[w.heap.size + 1]? = some (.cells #[.map (some w.heap.size)] 49 (0, 0))) (fun iv _ => zs.length - (intOf iv).toNat)
  case atStart =>
    refine ⟨0, Nat.zero_le _, rfl, ?_, ((Below.refl _ _).alloc (Nat.le_refl _) _).alloc (by rw [St.size_alloc]; omega) _, ?_⟩
    · exact ((DMap.made w.heap.size w).same fun k hk => heap_alloc_lt _ _ _ hk).congr (fun d => by simp) (fun d => by simp [depsAll])
    · have := heap_alloc_at (w.alloc (.map #[] 0)) (.cells #[.map (some w.heap.size)] 49)
      rw [St.size_alloc] at this
      exact this
  case round =>
    obtain ⟨k, hk, rfl, hDM, hB, hcell⟩ := hrel
    by_cases hlt : k < zs.length
    · obtain ⟨b, o, rfl, c0, c1, c2, c3⟩ := (hSH.out.below hB).get k hlt
      obtain ⟨x, hx⟩ : ∃ x, x = zs[k] := ⟨_, rfl⟩
      rw [← hx] at c0 c1 c2 c3
      have hxm : x ∈ zs := by rw [hx]; exact List.getElem_mem _
      have hxs := (hSH.out.2.2.2 x hxm)
      have hdl := hdH.out x hxm
      have hxT : TAt wr x.D x.dc x.deps := hxs.2.below hB
      have hkey : keyOf Tryd.prog 9 (.string x.nm) = some (slit x.nm) := keyStr_mk Tryd.underlying9 (by have := hxs.1; unfold maxLen; omega)
      obtain ⟨f, m1, m2, m3, m4⟩ := hDM
      have hws := hB.size
      obtain ⟨W, hW⟩ : ∃ W, wr.alloc (.cells #[.string x.nm, .string x.note, .slice x.D x.deps.length x.dc, .slice x.O x.on x.oc] 30) = W := ⟨_, rfl⟩
      have hWo : ∀ j, j < wr.heap.size → W.heap[j]? = wr.heap[j]? := fun j hj => by rw [← hW]; exact heap_alloc_lt _ _ _ hj
      have hWs : W.heap.size = wr.heap.size + 1 := by rw [← hW, St.size_alloc]
      have hWx : W.heap[wr.heap.size]? = some (.cells x.cells 30 (0, 0)) := by rw [← hW]; exact heap_alloc_at _ _
      have d1 : W.cell? ⟨w.heap.size + 1, 0, none⟩ = some (.map (some w.heap.size)) := cell_of ((hWo _ (heap_lt hcell)).trans hcell) 0
      have d2 : W.cell? ⟨wr.heap.size, 0, none⟩ = some (.string x.nm) := cell_of hWx 0
      have d3 : W.cell? ⟨wr.heap.size, 2, none⟩ = some (.slice x.D x.deps.length x.dc) := cell_of hWx 2
      have hMd := m1.lt
      have mW : GMap slit W Tryd.prog 9 w.heap.size k f := m1.same (hWo _ hMd)
      have hWc : W.heap[w.heap.size + 1]? = some (.cells #[.map (some w.heap.size)] 49 (0, 0)) := (hWo _ (heap_lt hcell)).trans hcell
      have mWd : GMap slit W.drew Tryd.prog 9 w.heap.size k f := mW.same rfl
      have hlk := look_run K0 49 25 Tryd.underlying49 (zS _) mWd x.nm hkey
      have hrow0 : SRow w.heap.size W.drew ((f x.nm).getD (.slice none 0 0)) (depsAll (zs.take k) x.nm) := (m3 x.nm).same fun q hq => hWo q ((m3 x.nm).lt q hq).2
      have hRA : RAt W.drew x.D x.deps := fun h0 => by
        obtain ⟨b, o, e, hc⟩ := hxT.2.2.2 h0
        exact ⟨b, o, e, fun j hj => (World.cell?_of_block (w := wr) (w' := W.drew) (hWo _ (World.block_lt_of_cell? _ _ (hc j hj)))).trans (hc j hj)⟩
      have hlen : (depsAll (zs.take k) x.nm).length + x.deps.length ≤ 10000000 := by
        have h1 := depsAll_len (zs := zs.take k) (fun z hz => hdH.out z (List.mem_of_mem_take hz)) x.nm
        have h2 : (zs.take k).length ≤ 1000 := by rw [List.length_take]; omega
        have h3 : (zs.take k).length * 1000 ≤ 1000 * 1000 := Nat.mul_le_mul_right _ h2
        omega
      have hbW : w.heap.size ≤ W.drew.heap.size := by show _ ≤ W.heap.size; rw [hWs]; omega
      have hkn : k < maxLen := by unfold maxLen; omega
      obtain ⟨v0, hv0⟩ : ∃ v0, v0 = (f x.nm).getD (.slice none 0 0) := ⟨_, rfl⟩
      rw [← hv0] at hlk hrow0
      replace hv0 := Lib.hid hv0
      replace hrow0 := Lib.hid hrow0
      replace mWd := Lib.hid mWd
      replace mW := Lib.hid mW
      replace hWc := Lib.hid hWc
      replace hWx := Lib.hid hWx
      replace hWo := Lib.hid hWo
      replace hWs := Lib.hid hWs
      replace m1 := Lib.hid m1
      replace m2 := Lib.hid m2
      replace m3 := Lib.hid m3
      replace m4 := Lib.hid m4
      replace hxT := Lib.hid hxT
      replace hB := Lib.hid hB
      replace hcell := Lib.hid hcell
      replace hx := Lib.hid hx
      replace hxs := Lib.hid hxs
      replace hxm := Lib.hid hxm
      replace hRA := Lib.hid hRA
      have hWH := Lib.hid hW
      clear hW
      go_wp2_with fail
      rw [hWH.out]
      go_region_held_law (fun w' => w'.cell? ⟨w.heap.size + 1, 0, none⟩ = some (.map (some w.heap.size)) ∧ w'.cell? ⟨wr.heap.size, 0, none⟩ = some (.string x.nm) ∧ w'.cell? ⟨wr.heap.size, 2, none⟩ = some (.slice x.D x.deps.length x.dc)) (go_keep)
        ((refine cat_step (v := v0) (base := w.heap.size) (l := depsAll (zs.take k) x.nm) (m := x.deps) rfl _ _ 25 rfl Tryd.underlying25 rfl x.D x.deps.length x.dc rfl rfl hRA.out hrow0.out hlen hbW ?_
          intro v1 w1 hr1 hg1 hl1
          have m1' : GMap slit w1 Tryd.prog 9 w.heap.size k f := mWd.out.same (hg1.2.2.2.2 _ mWd.out.lt (fun e => by obtain ⟨cur, hc⟩ := hrow0.out.cells _ e.symm; exact map_ne hc mWd.out.obj rfl))
          obtain ⟨w2, hrun2, hM2, ht2⟩ := upd_run K0 49 25 Tryd.underlying49 m1' hkn x.nm v1 hkey
          have g1 := grew_far hg1 hrow0.out hWc.out (by decide)
          have g2 := grew_far hg1 hrow0.out hWx.out (by decide)
          have g3 := turned_far ht2 m1'.obj g1
          have g4 := turned_far ht2 m1'.obj g2
          have k1 : w1.cell? ⟨w.heap.size + 1, 0, none⟩ = some (.map (some w.heap.size)) := cell_of g1 0
          have k2 : w1.cell? ⟨wr.heap.size, 0, none⟩ = some (.string x.nm) := cell_of g2 0
          have k3 : w1.cell? ⟨wr.heap.size, 2, none⟩ = some (.slice x.D x.deps.length x.dc) := cell_of g2 2
          have k4 : w2.cell? ⟨w.heap.size + 1, 0, none⟩ = some (.map (some w.heap.size)) := cell_of g3 0
          have k5 : w2.cell? ⟨wr.heap.size, 0, none⟩ = some (.string x.nm) := cell_of g4 0
          have k6 : w2.cell? ⟨wr.heap.size, 2, none⟩ = some (.slice x.D x.deps.length x.dc) := cell_of g4 2
          replace hr1 := Lib.hid hr1; replace hg1 := Lib.hid hg1; replace hl1 := Lib.hid hl1; replace hM2 := Lib.hid hM2; replace ht2 := Lib.hid ht2; replace g3 := Lib.hid g3; replace m1' := Lib.hid m1'
          clear g1 g2 g4))
      go_wp2_with fail
      go_roundw
      case rel =>
        have hg1' := hg1.out
        rw [hv0.out] at hg1'
        have hl1' := hl1.out
        rw [hv0.out] at hl1'
        have hn := deps_next mWd.out m2.out (fun d => (m3.out d).same fun q hq => hWo.out q ((m3.out d).lt q hq).2) m4.out hr1.out hg1' hl1' hM2.out ht2.out
        refine ⟨k + 1, by omega, by go_num, hn.congr (fun d => ?_) (fun d => ?_), ?_, g3.out⟩
        · rw [names_take zs k hlt, ← hx.out]
          simp [or_comm]
        · rw [depsAll_snoc hlt, ← hx.out]
        · have hBW : Below w.heap.size w W.drew := by
            have := (hB.out.alloc hB.out.size (.cells #[.string x.nm, .string x.note, .slice x.D x.deps.length x.dc, .slice x.O x.on x.oc] 30)).drew
            rw [hWH.out] at this
            exact this
          exact below_turn (below_grew hBW hBW.size hg1.out (fun q hq => (hrow0.out.lt q hq).1)) (Nat.le_refl _) (Nat.le_trans hBW.size hg1.out.1) ht2.out
      case measure => simp [intOf]; omega
    · obtain rfl : k = zs.length := by omega
      have hDM' := hDM.congr (S' := fun d => d ∈ names zs) (rows' := depsAll zs) (fun d => by rw [List.take_of_length_le (by unfold names; simp)]) (fun d => by rw [List.take_of_length_le (Nat.le_refl _)])
      have hws := hB.size
      obtain ⟨W3, hW3⟩ : ∃ W3, (((wr.alloc (.map #[] 0)).alloc (.cells #[.map (some wr.heap.size)] 60)).alloc (.cells #[.func (.func 26) #[] #[.pointer (some ⟨w.heap.size + 1, 0, none⟩), .pointer (some ⟨wr.heap.size + 1, 0, none⟩), .pointer (some ⟨wr.heap.size + 1 + 1, 0, none⟩)]] 61)) = W3 := ⟨_, rfl⟩
      have hW3s : W3.heap.size = wr.heap.size + 3 := by rw [← hW3, St.size_alloc, St.size_alloc, St.size_alloc]
      have hW3o : ∀ j, j < wr.heap.size → W3.heap[j]? = wr.heap[j]? := fun j hj => by
        rw [← hW3, heap_alloc_lt _ _ _ (by rw [St.size_alloc, St.size_alloc]; omega), heap_alloc_lt _ _ _ (by rw [St.size_alloc]; omega), heap_alloc_lt _ _ _ hj]
      have hE : PEnv zs w.heap.size (w.heap.size + 1) (wr.heap.size + 1) (wr.heap.size + 1 + 1) w.heap.size wr.heap.size W3 := by
        refine ⟨(hW3o _ (heap_lt hcell)).trans hcell, ?_, ?_, ⟨_, hDM'.same hW3o⟩, fun e => ?_⟩
        · have := heap_alloc_at (wr.alloc (.map #[] 0)) (.cells #[.map (some wr.heap.size)] 60)
          rw [St.size_alloc] at this
          rw [← hW3, heap_alloc_lt _ _ _ (by rw [St.size_alloc, St.size_alloc]; omega)]
          exact this
        · have := heap_alloc_at ((wr.alloc (.map #[] 0)).alloc (.cells #[.map (some wr.heap.size)] 60)) (.cells #[.func (.func 26) #[] #[.pointer (some ⟨w.heap.size + 1, 0, none⟩), .pointer (some ⟨wr.heap.size + 1, 0, none⟩), .pointer (some ⟨wr.heap.size + 1 + 1, 0, none⟩)]] 61)
          rw [St.size_alloc, St.size_alloc] at this
          rw [← hW3]
          exact this
        · obtain ⟨f, m1, _⟩ := hDM'
          have := m1.lt
          omega
      have hM3 : GMap slit W3 Tryd.prog 9 wr.heap.size 0 (BF (fun _ => False)) := by
        rw [BF_none]
        refine (GMap.made slit wr _ _).same ?_
        rw [← hW3, heap_alloc_lt _ _ _ (by rw [St.size_alloc, St.size_alloc]; omega), heap_alloc_lt _ _ _ (by rw [St.size_alloc]; omega)]
      have hBw3 : Below w.heap.size w W3 := by
        rw [← hW3]
        exact ((hB.alloc hws _).alloc (by rw [St.size_alloc]; omega) _).alloc (by rw [St.size_alloc, St.size_alloc]; omega) _
      have hwk := walk_c (K := zs.length) hz hz hdH.out (fun z hz d hd => (hSH.out.2.2.2 z hz).2.2.2.1 d hd) (un zs fun _ => False) nm W3 (fun _ => False) 0 (Nat.le_refl _) hE hM3 (by have := un_top zs (fun _ => False); omega) hnm
      replace hDM' := Lib.hid hDM'
      replace hB := Lib.hid hB
      replace hcell := Lib.hid hcell
      have hW3H := Lib.hid hW3
      have hEH := Lib.hid hE
      have hM3H := Lib.hid hM3
      have hB3H := Lib.hid hBw3
      have hW3sH := Lib.hid hW3s
      have hwkH := Lib.hid hwk
      clear hDM hW3 hE hM3 hBw3 hW3s hW3o hwk
      go_wp2_with fail
      rw [hW3H.out]
      refine hwkH.out.mono ?_
      rintro e w4 ⟨rfl, S', m', hD, hM4, hmK, hG⟩
      have hE4 := hEH.out.keep hM3H.out.obj hG
      have e2 := cell_of hE4.c2 0
      have hB4 : Below w.heap.size w w4 := hB3H.out.trans ⟨hG.os, hG.tape, hG.output, hG.size, fun q hq => hG.block q (by rw [hW3sH.out]; omega) (fun e => by have : q = wr.heap.size := Option.some.inj e; omega)⟩
      have hsc := Lib.hid (sorted_c hM4 (by omega))
      replace hD := Lib.hid hD
      replace hM4 := Lib.hid hM4
      replace hE4 := Lib.hid hE4
      replace hB4 := Lib.hid hB4
      clear hmK hG
      go_wp2_with fail
      refine (keysFn_c _ _).mono ?_
      rintro e w5 ⟨rfl, rfl⟩
      go_wp2_with fail
      refine hsc.out.mono ?_
      rintro e w6 ⟨v, rfl, hr, hb2⟩
      replace hr := Lib.hid hr
      replace hb2 := Lib.hid hb2
      go_wp2_with fail
      go_ret
      obtain ⟨l, h1, h2, h3⟩ := hr.out
      have hsz : w.heap.size ≤ (w4.alloc (.cells #[.map (some wr.heap.size)] 60)).heap.size := by rw [St.size_alloc]; have := hB4.out.size; omega
      refine ⟨v, rfl, ⟨l, h1.base (fun q hq => Nat.le_trans hsz (h1.lt q hq).1), h2, fun s => ?_⟩, (hB4.out.alloc hB4.out.size _).trans (hb2.out.mono hsz)⟩
      rw [h3 s]
      show (BF S' s).isSome = true ↔ _
      rw [BF_some]
      exact hD.out.whole s
end Go.Proofs.YtalkhiggapbfjaaDoor.Orp
