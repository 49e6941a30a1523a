/- What LawWireReads, LawWireWrites, LawWireSpoilt lean on, part x of 25: the texts WiH, CardL, WiY, WiQ. -/
import Derived.Test.YtbefkoljcacpcaaGreatDoorTVg
import Derived.Test.YtbefkoljcacpcaaGreatDoorTVw
import Derived.Test.YtbefkoljcacpcaaGreatDoorRows
import Derived.Lib.LaidTab
import Derived.Stop.LaidErr
import Derived.LaidSub
import Derived.MakeChecks
import Derived.Lib.ConvBytes
import Derived.Laws.BitsLemmas
set_option linter.unusedVariables false
set_option linter.unusedSimpArgs false
namespace Go.Proofs.YtbefkoljcacpcaaGreatDoor.Tm
open Go Go.RowKit Go.Proofs.YtbefkoljcacpcaaGreatDoorW.PrintWords Go.Proofs.YtbefkoljcacpcaaGreatDoor.B
def IntRow (base : Nat) (W : World) (v : Value) (l : List Int) : Prop := W.ownsRow base 3 1 v l.length (l.map fun s => .int .i64 s)
theorem IntRow.nil (base : Nat) (W : World) : IntRow base W (.slice none 0 0) [] := ⟨rfl, .inl ⟨rfl, rfl⟩⟩
theorem IntRow.lt {base : Nat} {W : World} {v : Value} {l : List Int} (h : IntRow base W v l) (k : Nat) (hk : v.ownBlock = some k) : base ≤ k ∧ k < W.heap.size := by
  have := World.ownsRow.lt h k hk
  exact ⟨this.1, this.2⟩
theorem IntRow.keep {base : Nat} {W W' : World} {v : Value} {l : List Int} (h : IntRow base W v l) (hk : ∀ b, base ≤ b → b < W.heap.size → W'.heap[b]? = W.heap[b]?) : IntRow base W' v l := by
  have hlt := h.lt
  obtain ⟨k1, k2⟩ := h
  refine ⟨k1, ?_⟩
  rcases k2 with k2 | ⟨g, cap, cur, e1, e2, e3, e4⟩
  · exact .inl k2
  · have := hlt g (by rw [e1]; rfl)
    exact .inr ⟨g, cap, cur, e1, e2, (hk g e2 this.2).trans e3, e4⟩
theorem IntRow.cell {base : Nat} {W : World} {v : Value} {l : List Int} (h : IntRow base W v l) (h0 : 0 < l.length) : ∃ g c, v = .slice (some ⟨g, 0, none⟩) l.length c ∧ base ≤ g ∧ g < W.heap.size ∧ ∀ j, j < l.length → W.cell? ⟨g, j, none⟩ = some (.int .i64 (l.getD j 0)) := by
  have hlt := h.lt
  obtain ⟨k1, k2⟩ := h
  rcases k2 with ⟨rfl, h1⟩ | ⟨g, cap, cur, rfl, e2, e3, e4, e5, e6, e7⟩
  · omega
  · refine ⟨g, cap, rfl, e2, (hlt g rfl).2, fun j hj => ?_⟩
    rw [cell_of e3]
    have : (l.map fun s => Value.int .i64 s)[j]? = some (.int .i64 (l.getD j 0)) := by rw [List.getElem?_map, List.getElem?_eq_getElem hj, List.getD_eq_getElem?_getD, List.getElem?_eq_getElem hj]; rfl
    rw [← e7, List.getElem?_take, if_pos (by omega), Array.getElem?_toList] at this
    exact this
theorem infoI : ∃ i, Tryz.prog.info? 3 = some i ∧ i.zero = some (.int .i64 0) ∧ i.size = 1 ∧ i.bytes = 8 := by
  have h : (Tryz.prog.info? 3).map (fun i => (i.zero, i.size, i.bytes)) = some (some (.int .i64 0), 1, 8) := by kernel_rfl
  match hi : Tryz.prog.info? 3, h with
  | some i, h =>
    simp only [Option.map_some, Option.some.injEq, Prod.mk.injEq] at h
    exact ⟨i, rfl, h.1, h.2.1, h.2.2⟩
theorem int_app {ops : Array Oper} {rest : List Oper} {o : Oper} {a : Act} {Q : Exit → Act → World → Prop} {base : Nat} {w : World} {v : Value} {l : List Int} {x : Int} (hgd : o.guard = none) (s y : Operand) (t : TypeId)
    (ho : o.op = .call { callee := .builtin .append, args := #[s, y], argTypes := #[t, t] }) (ht : Tryz.prog.underlying t = some (.slice 3))
    (hs : a.eval s = v) (n c : Nat) (hx : a.eval y = .slice (some ⟨w.heap.size, 0, none⟩) 1 c) (hrow : IntRow base w v l) (hn : l.length = n) (hb : n ≤ 1000000) (hbase : base ≤ w.heap.size)
    (h : ∀ g cap w', IntRow base w' (.slice (some ⟨g, 0, none⟩) (n + 1) cap) (l ++ [x]) → Grew v w w' → wpList Tryz.prog ops Q rest (a.put o.dst (.slice (some ⟨g, 0, none⟩) (n + 1) cap)) w') :
    wpList Tryz.prog ops Q (o :: rest) a (w.alloc (.cells #[.int .i64 x] 3)) := by
  subst hn
  obtain ⟨iF, hiF, hzF, hsF, hbF⟩ := infoI
  have hown := hrow
  unfold IntRow at hown
  refine wpList_append_lies _ hgd s y t ho base 3 iF _ 1 8 ht hiF hzF hsF hbF rfl (by omega) v l.length _ hs (hown.alloc _) ⟨w.heap.size, 0, none⟩ 1 c [.int .i64 x] hx rfl (World.news_of_block (heap_alloc_at w _)) (fun u hu => by rw [List.mem_singleton] at hu; subst hu; rfl) (by omega) (by unfold maxLen; omega) (by omega) (by simp; omega) (w.heap.size + 1) (by simp) ?_
  intro g cap w' hown' hgrow hat hlt
  have hsz := hgrow.size
  rw [size_alloc] at hsz
  refine h g cap w' ?_ ⟨by omega, hgrow.os, hgrow.tape, hgrow.output, fun k h1 h2 => (hgrow.block k (by rw [size_alloc]; omega) h2).trans (heap_alloc_lt w _ _ h1)⟩
  unfold IntRow
  rw [List.map_append, List.length_append]
  exact hown'
end Go.Proofs.YtbefkoljcacpcaaGreatDoor.Tm
set_option linter.unusedVariables false
set_option linter.unusedSimpArgs false
namespace Go.Proofs.YtbefkoljcacpcaaGreatDoor.Wi
open Go Go.RowKit Go.WideShapes Go.ChangeShapes Go.Proofs.YtbefkoljcacpcaaGreatDoorW.PrintWords Go.Proofs.YtbefkoljcacpcaaGreatDoor.B Go.Proofs.YtbefkoljcacpcaaGreatDoor.Tm
theorem at_field {l : List Value} {k n : Nat} {x : Value} (h : (l.drop k).take n = [x]) : l[k]? = some x := by
  have e := congrArg (fun L => L[0]?) h
  simp only [List.getElem?_cons_zero, List.getElem?_take, List.getElem?_drop, Nat.add_zero] at e
  split at e
  · exact e
  · cases e
theorem C_of_rsl {w : World} {A : Option Addr} {n c : Nat} {xs : List ByteArray} (h : Rd.RSl 1 Rd.RStr w [.slice A n c] xs) : Kd.C Kd.string w A n xs ∧ n ≤ c ∧ ∀ x ∈ xs, x.size ≤ 140737488351232 := by
  obtain ⟨h1, h2, h3, h4⟩ := Rd.sl_at h
  subst h1
  have hl : xs.length ≤ 9223372036854775807 := by omega
  refine ⟨⟨rfl, hl, fun h0 => ?_⟩, h2, fun x hx => ?_⟩
  · obtain ⟨b, off, rfl, hc⟩ := h4 h0
    refine ⟨_, rfl, fun j p hj => ?_⟩
    obtain ⟨hjl, hjp⟩ := List.getElem?_eq_some_iff.1 hj
    obtain ⟨es, e1, e2, e3⟩ := hc j hjl
    rw [hjp] at e3
    refine ⟨es, e1, e3.1, fun i u hu => ?_⟩
    have hi := (List.getElem?_eq_some_iff.1 hu).1
    rw [add_off, show off + (j * Kd.string.sz + i) = off + j * 1 + i from by show off + (j * 1 + i) = _; omega, e2 i (by omega)]
    exact hu
  · obtain ⟨i, hi, rfl⟩ := List.mem_iff_getElem.1 hx
    obtain ⟨b, off, _, hc⟩ := h4 (by omega)
    obtain ⟨es, _, _, e3⟩ := hc i hi
    exact e3.2
set_option maxRecDepth 100000 in
theorem letter_open {H : Type} {enc : TypeId × Value → H} (v : Value) {d : DataW H} {ps : List MemPlace} (w : World) {base : Nat}
    (hv : Value.okWide Tryz.prog w .any base 24 v) (h : DataW.Trod enc Tryz.prog w 0 (fun _ => true) true 24 v d ps) (hw : ∀ n ∈ d.weights Tryz.prog 24, n ≤ reachBytes) :
    ∃ v0 v1 v2 v3 v4 v5 A c l p, v = .agg (letCells v0 v1 v2 v3 v4 v5 A l.length c p) ∧ Kd.C Kd.string w A l.length l ∧ l.length ≤ c ∧ ∀ x ∈ l, x.size ≤ 140737488351232 := by
  obtain ⟨cs, rfl, hsz⟩ := okWide_struct Tryz.underlying24 hv
  obtain ⟨fuel, hf⟩ := h
  obtain ⟨hl, S⟩ := Rd.struct_fields Tryz.underlying24 hf hw
  have oI : Rd.Opens enc Tryz.prog w 3 (Rd.RInt .i64) := Rd.opens_int Tryz.underlying3
  have oL : Rd.Opens enc Tryz.prog w 22 (Rd.RSl 1 Rd.RStr) := Rd.opens_sl (size := 1) Tryz.underlying22 (by kernel_rfl) (by omega) (of_decide_eq_true (by kernel_rfl)) (Rd.opens_str Tryz.underlying9)
  have oS : Rd.Opens enc Tryz.prog w 9 Rd.RStr := Rd.opens_str Tryz.underlying9
  obtain ⟨v0, e0, _⟩ := S Int 0 _ (Rd.RInt .i64) rfl oI
  obtain ⟨v1, e1, _⟩ := S Int 1 _ (Rd.RInt .i64) rfl oI
  obtain ⟨v2, e2, _⟩ := S Int 2 _ (Rd.RInt .i64) rfl oI
  obtain ⟨v3, e3, _⟩ := S Int 3 _ (Rd.RInt .i64) rfl oI
  obtain ⟨v4, e4, _⟩ := S Int 4 _ (Rd.RInt .i64) rfl oI
  obtain ⟨v5, e5, _⟩ := S Int 5 _ (Rd.RInt .i64) rfl oI
  obtain ⟨l, h6⟩ := S (List ByteArray) 6 _ (Rd.RSl 1 Rd.RStr) rfl oL
  obtain ⟨p, e7, _⟩ := S ByteArray 7 _ Rd.RStr rfl oS
  have h6' := h6
  obtain ⟨A, c, e6, _⟩ := h6'
  rw [e6] at h6
  obtain ⟨hC, hc, hs⟩ := C_of_rsl h6
  have hcs : (Value.agg cs).cells = cs := rfl
  rw [hcs] at e0 e1 e2 e3 e4 e5 e6 e7
  have f0 : cs.toList[0]? = _ := at_field e0
  have f1 : cs.toList[1]? = _ := at_field e1
  have f2 : cs.toList[2]? = _ := at_field e2
  have f3 : cs.toList[3]? = _ := at_field e3
  have f4 : cs.toList[4]? = _ := at_field e4
  have f5 : cs.toList[5]? = _ := at_field e5
  have f6 : cs.toList[6]? = _ := at_field e6
  have f7 : cs.toList[7]? = _ := at_field e7
  have h8 : cs.size = 8 := hsz.trans (by kernel_rfl)
  refine ⟨v0, v1, v2, v3, v4, v5, A, c, l, p, ?_, hC, hc, hs⟩
  obtain ⟨L⟩ := cs
  match L, h8 with
  | [c0, c1, c2, c3, c4, c5, c6, c7], _ =>
    simp only [List.getElem?_cons_zero, List.getElem?_cons_succ, Option.some.injEq] at f0 f1 f2 f3 f4 f5 f6 f7
    subst f0 f1 f2 f3 f4 f5 f6 f7
    rfl
theorem trod_ifaceCell {H : Type} {enc : TypeId × Value → H} {P : Program} {w : World} {base : Nat} {sp : Nat → Bool} {held : Bool} {fuel : Nat} {t : TypeId} {ms : Array (String × TypeId)} {cs : List Value} {y : DataW H × List MemPlace}
    (ht : P.underlying t = some (.interface ms)) (h : DataW.trod enc P w base sp held fuel t cs = some y) : ∃ ev, cs = [ev] ∧ (ev = .nilIface ∨ ∃ te pe, ev = .iface te pe) := by
  cases fuel with
  | zero => simp [DataW.trod] at h
  | succ fuel =>
    simp only [DataW.trod, ht] at h
    split at h <;> first | (cases h; done) | skip
    all_goals first | exact ⟨_, rfl, .inl rfl⟩ | exact ⟨_, rfl, .inr ⟨_, _, rfl⟩⟩ | (simp_all; done)
theorem err_of {W : World} {n : String} {d : DataW Unit} {r : List (String × DataW Unit)} {g : Nat} {ms : Array (String × TypeId)} (h : laidMet Tryz.prog ((n, d) :: r) W) (hg : Tryz.prog.globalNamed n = some g) (ht : (Tryz.prog.globals[g]?).map (·.type) = some 27) (hu : Tryz.prog.underlying 27 = some (.interface ms)) :
    ∃ ev, W.cell? ⟨g, 0, none⟩ = some ev ∧ (ev = .nilIface ∨ ∃ te pe, ev = .iface te pe) := by
  obtain ⟨ps, ⟨g', t', cs, fuel, p, q, hg', ht', hvar, hd, _, _⟩, _⟩ := h
  obtain rfl := Option.some.inj (hg.symm.trans hg')
  obtain rfl := Option.some.inj (ht.symm.trans ht')
  obtain ⟨ev, e, hev⟩ := trod_ifaceCell hu hd
  refine ⟨ev, ?_, hev⟩
  have := World.var?_cell hg hvar 0
  rw [this, ← Array.getElem?_toList, e]
  rfl
theorem lw_of {W : World} (h : laidMet Tryz.prog Rows.wireSpoiltRow.laid W) : Lw W := by
  have h0 := h.tail.tail
  have ht : Tab W := Lib.tabIs_of_head (g := 1) gtab (by kernel_rfl) Tryz.underlying189 Tryz.underlying102 (by kernel_rfl) (by kernel_rfl) h0
  have h1 := h0.tail.tail
  have eR := err_of h1 (g := 4) (by kernel_rfl) (by kernel_rfl) Tryz.underlying27
  have eS := err_of h1.tail (g := 3) (by kernel_rfl) (by kernel_rfl) Tryz.underlying27
  refine ⟨⟨eS, eR⟩, ht, ?_⟩
  have hc := Lib.TabIs.cell ht gtab 0 (by decide)
  exact World.block_lt_of_cell? _ _ hc
theorem lw_plain {W : World} (h : laidMetH Tryz.prog Rows.wireSpoiltRow.laid W) : Lw W := by
  rw [MakeChecks.laidMetH_plain _ _ _ (by kernel_rfl)] at h
  exact lw_of h
theorem lw_handle {W : World} {l : List (String × DataW Unit)} (hl : (l.filter fun x => x.2.handleName?.isNone) = Rows.wireSpoiltRow.laid) (h : laidMetH Tryz.prog l W) : Lw W := by
  refine lw_of ?_
  rw [← hl]
  unfold laidMetH at h
  generalize hfl : (l.filter fun x => x.2.handleName?.isSome) = fl at h
  cases fl with
  | nil =>
    rw [List.filter_eq_self.2 fun x hx => ?_]
    · exact h
    · have := List.filter_eq_nil_iff.1 hfl x hx
      simpa using this
  | cons a r => exact h.1
end Go.Proofs.YtbefkoljcacpcaaGreatDoor.Wi
set_option linter.unusedVariables false
set_option linter.unusedSimpArgs false
namespace Go.Proofs.YtbefkoljcacpcaaGreatDoor.Wi
open Go Go.RowKit Go.Proofs.YtbefkoljcacpcaaGreatDoorW.PrintWords Go.Proofs.YtbefkoljcacpcaaGreatDoor.B Go.Proofs.YtbefkoljcacpcaaGreatDoor.Tm
open Go.Proofs.YtbefkoljcacpcaaGreatDoor.Err (ErrT Code_nil Code_errno)
set_option maxRecDepth 100000 in
set_option maxHeartbeats 8000000 in
theorem writes17_walk (hRS : RSumSaid) (v0 v1 v2 v3 v4 v5 : Int) (A : Option Addr) (c : Nat) (l : List ByteArray) (p : ByteArray) (w : World) (hL : Lw w) (hE : ErrT w) (hC : Kd.C Kd.string w A l.length l) (hc : l.length ≤ c) (hs : ∀ x ∈ l, x.size ≤ 140737488351232) :
    Calls Tryz.prog 4 #[.agg (letCells v0 v1 v2 v3 v4 v5 A l.length c p)] w fun ev w' => ev = .returned (.bool true) ∧ Below w.heap.size w w' := by
  obtain ⟨g, hg⟩ : ∃ g, g = w.heap.size := ⟨_, rfl⟩
  obtain ⟨w1, hw1⟩ : ∃ w1, w1 = w.alloc (.cells (letCells v0 v1 v2 v3 v4 v5 A l.length c p) 24) := ⟨_, rfl⟩
  have hS1 := Lib.hid (show St w w1 g (letCells v0 v1 v2 v3 v4 v5 A l.length c p) by rw [hw1, hg]; exact St.new _ _ _ (Below.refl _ _))
  have C0 := Lib.hid (fun W h => awake17_c W h)
  have hLH := Lib.hid hL
  have hEH := Lib.hid hE
  have hCH := Lib.hid hC
  have hcH := Lib.hid hc
  have hsH := Lib.hid hs
  clear hL hE hC hc hs
  have CW := fun W (h : Below w.heap.size w W) (hn : l.length ≤ 300) => Lib.hid (wwrite_c v0 v1 v2 v3 v4 v5 A c l p W (Kd.C_below hCH.out h) hcH.out (by omega) hsH.out (hLH.out.below h).2.1 (hLH.out.below h).2.2)
  have CT := fun W (h : Below w.heap.size w W) (hn : l.length ≤ 300) => Lib.hid (rwwrite_c hRS v0 v1 v2 v3 v4 v5 A c l p W (Kd.C_below hCH.out h) hcH.out (by omega) hsH.out)
  have CG := fun W (h : Below w.heap.size w W) (hn : l.length ≤ 300) => Lib.hid (right_c v0 v1 v2 v3 v4 v5 A c l p W (Kd.C_below hCH.out h) hcH.out (by omega) hsH.out)
  have CS := fun (B : Option Addr) (d : Nat) W (h : Below w.heap.size w W) (hB : Kd.C Kd.string W B l.length l) (hd : l.length ≤ d) => Lib.hid (same17_c v0 v1 v2 v3 v4 v5 A c l p v0 v1 v2 v3 v4 v5 B d l p W (Kd.C_below hCH.out h) hcH.out hB hd)
  simp only [and_self, decide_true] at CS
  have CR := fun (hr : wright [v0, v1, v2, v3, v4, v5] l p = true) W (h : Below w.heap.size w W) => Lib.hid ((wread_c ⟨(lbytes [v0, v1, v2, v3, v4, v5] l p).toArray⟩ W (lbytes_size rfl hr) (hLH.out.below h).1 (hLH.out.below h).2.1 (hLH.out.below h).2.2).mono fun ev w' h => wread_back hr (by simp) h)
  have CC := fun W (h : Below w.heap.size w W) => Lib.hid (Code_errno 1 W (hEH.out.below h))
  unfold WrPost at CW
  unfold RWrPost at CT
  obtain ⟨n, hN⟩ : ∃ n, n = l.length := ⟨_, rfl⟩
  unfold letCells at hw1 hS1 CW CT CG CS CR ⊢
  rw [← hN] at hw1 hS1 CW CT CG CS CR ⊢
  replace hN := Lib.hid hN
  go_enter Tryz.func4, Tryz.ntmps4
  go_upto_region 1 with fail
  rw [← hw1, ← hg]
  replace hw1 := Lib.hid hw1
  replace hg := Lib.hid hg
  go_wp2_with fail
  refine (C0.out w1 (hLH.out.below hS1.out.1)).mono ?_
  rintro ev w2 ⟨rfl, hb⟩
  have hS2 := Lib.hid (hS1.out.step hb)
  clear hb
  obtain ⟨f0, f1, f2, f3, f4, f5, f6, f7, _, _⟩ := let_facts hS2.out.2
  by_cases h3 : (300 : Int) < (n : Int)
  · go_wp2_with fail
    go_ret
    exact ⟨rfl, hS2.out.1⟩
  by_cases h4 : (20000 : Int) < (p.size : Int)
  · go_wp2_with fail
    go_ret
    exact ⟨rfl, hS2.out.1⟩
  have hn : n ≤ 300 := by omega
  replace CW := Lib.hid (fun W h => (CW W h hn).out)
  replace CT := Lib.hid (fun W h => (CT W h hn).out)
  replace CG := Lib.hid (fun W h => (CG W h hn).out)
  replace CS := Lib.hid (fun B d W h hB hd => (CS B d W h hB hd).out)
  replace CC := Lib.hid (fun W h => (CC W h).out)
  go_upto_region 5 with fail
  cases hr : wright [v0, v1, v2, v3, v4, v5] l p with
  | false =>
    clear CR
    replace CW := Lib.hid (show ∀ W, Below w.heap.size w W → _ from fun W h => by have := CW.out W h; rw [hr] at this; simp only [Bool.false_eq_true, if_false, errno] at this; exact this)
    replace CT := Lib.hid (show ∀ W, Below w.heap.size w W → _ from fun W h => by have := CT.out W h; rw [hr] at this; simp only [Bool.false_eq_true, if_false] at this; exact this)
    replace CG := Lib.hid (show ∀ W, Below w.heap.size w W → _ from fun W h => by have := CG.out W h; rw [hr] at this; exact this)
    clear hr
    go_wp2_with fail
    refine (CW.out w2 hS2.out.1).mono ?_
    rintro ev w3 ⟨rfl, hb⟩
    have hS3 := Lib.hid (hS2.out.step hb)
    clear hb f0 f1 f2 f3 f4 f5 f6 f7
    obtain ⟨f0, f1, f2, f3, f4, f5, f6, f7, _, _⟩ := let_facts hS3.out.2
    go_wp2_with fail
    refine (CT.out w3 hS3.out.1).mono ?_
    rintro ev w4 ⟨rfl, hb⟩
    have hS4 := Lib.hid (hS3.out.step hb)
    clear hb f0 f1 f2 f3 f4 f5 f6 f7
    obtain ⟨f0, f1, f2, f3, f4, f5, f6, f7, _, _⟩ := let_facts hS4.out.2
    go_wp2_with fail
    refine (CC.out w4 hS4.out.1).mono ?_
    rintro ev w5 ⟨rfl, hb⟩
    have hS5 := Lib.hid (hS4.out.step hb)
    clear hb f0 f1 f2 f3 f4 f5 f6 f7
    obtain ⟨f0, f1, f2, f3, f4, f5, f6, f7, _, _⟩ := let_facts hS5.out.2
    go_wp2_with fail
    refine (CG.out w5 hS5.out.1).mono ?_
    rintro ev w6 ⟨rfl, hb⟩
    have hS6 := Lib.hid (hS5.out.step hb)
    clear hb
    go_wp2_with fail
    go_ret
    exact ⟨rfl, hS6.out.1⟩
  | true =>
    replace CR := Lib.hid (fun W h => (CR hr W h).out)
    obtain ⟨s, hs⟩ : ∃ s : ByteArray, s = ⟨(lbytes [v0, v1, v2, v3, v4, v5] l p).toArray⟩ := ⟨_, rfl⟩
    replace CW := Lib.hid (show ∀ W, Below w.heap.size w W → _ from fun W h => by have := CW.out W h; rw [hr] at this; simp only [if_true, ← hs] at this; exact this)
    replace CT := Lib.hid (show ∀ W, Below w.heap.size w W → _ from fun W h => by have := CT.out W h; rw [hr] at this; simp only [if_true, ← hs] at this; exact this)
    replace CG := Lib.hid (show ∀ W, Below w.heap.size w W → _ from fun W h => by have := CG.out W h; rw [hr] at this; exact this)
    rw [← hs] at CR
    replace hs := Lib.hid hs
    clear hr
    go_wp2_with fail
    refine (CW.out w2 hS2.out.1).mono ?_
    rintro ev w3 ⟨rfl, hb⟩
    have hS3 := Lib.hid (hS2.out.step hb)
    clear hb f0 f1 f2 f3 f4 f5 f6 f7
    obtain ⟨f0, f1, f2, f3, f4, f5, f6, f7, _, _⟩ := let_facts hS3.out.2
    go_wp2_with fail
    refine (CT.out w3 hS3.out.1).mono ?_
    rintro ev w4 ⟨rfl, hb⟩
    have hS4 := Lib.hid (hS3.out.step hb)
    clear hb f0 f1 f2 f3 f4 f5 f6 f7
    obtain ⟨f0, f1, f2, f3, f4, f5, f6, f7, _, _⟩ := let_facts hS4.out.2
    go_wp2_with fail
    refine (Code_nil w4).mono ?_
    rintro ev w5 ⟨rfl, rfl⟩
    go_wp2_with fail
    refine (CG.out w5 hS4.out.1).mono ?_
    rintro ev w6 ⟨rfl, hb⟩
    have hS6 := Lib.hid (hS4.out.step hb)
    clear hb f0 f1 f2 f3 f4 f5 f6 f7
    obtain ⟨f0, f1, f2, f3, f4, f5, f6, f7, _, _⟩ := let_facts hS6.out.2
    go_upto_region 9 with fail
    go_upto_region 11 with fail
    go_wp2_with fail
    refine (CR.out w6 hS6.out.1).mono ?_
    rintro ev w7 ⟨hb, B, d, rfl, hB, hd⟩
    have hS7 := Lib.hid (hS6.out.step hb)
    clear hb f0 f1 f2 f3 f4 f5 f6 f7
    have hB' := Lib.hid hB
    obtain ⟨k, hk⟩ : ∃ k, k = w7.heap.size := ⟨_, rfl⟩
    obtain ⟨w8, hw8⟩ : ∃ w8, w8 = w7.alloc (.cells (letCells v0 v1 v2 v3 v4 v5 B n d p) 24) := ⟨_, rfl⟩
    have hb78 : Below w7.heap.size w7 w8 := by rw [hw8]; exact below_alloc _ _
    have hM8 := Lib.hid (show St w w8 k (letCells v0 v1 v2 v3 v4 v5 B n d p) by rw [hw8, hk]; exact St.new _ _ _ hS7.out.1)
    have hS8 := Lib.hid (hS7.out.step hb78)
    have hB8 := Lib.hid (Kd.C_below hB hb78)
    have hdH := Lib.hid hd
    clear hB hd hb78
    unfold letCells at hw8 hM8
    obtain ⟨f0, f1, f2, f3, f4, f5, f6, f7, _, _⟩ := let_facts hS8.out.2
    obtain ⟨m0, m1, m2, m3, m4, m5, m6, m7, _, _⟩ := let_facts hM8.out.2
    go_upto_region 12 with fail
    rw [← hw8, ← hk]
    replace hw8 := Lib.hid hw8
    replace hk := Lib.hid hk
    go_wp2_with fail
    refine (CS.out B d w8 hS8.out.1 hB8.out hdH.out).mono ?_
    rintro ev w9 ⟨rfl, hb⟩
    have hS9 := Lib.hid (hS8.out.step hb)
    clear hb
    go_wp2_with fail
    go_ret
    exact ⟨rfl, hS9.out.1⟩
end Go.Proofs.YtbefkoljcacpcaaGreatDoor.Wi
set_option linter.unusedVariables false
set_option linter.unusedSimpArgs false
namespace Go.Proofs.YtbefkoljcacpcaaGreatDoor.Wi
open Go Go.RowKit Go.Proofs.YtbefkoljcacpcaaGreatDoorW.PrintWords Go.Proofs.YtbefkoljcacpcaaGreatDoor.B Go.Proofs.YtbefkoljcacpcaaGreatDoor.Tm
theorem xor8 (a b : UInt8) : bits .xor .u8 (a.toNat : Int) (b.toNat : Int) = ((a ^^^ b).toNat : Int) := by
  show IntKind.u8.wrap ((BitVec.ofInt 8 (a.toNat : Int) ^^^ BitVec.ofInt 8 (b.toNat : Int)).toNat : Int) = _
  have ha : a.toNat < 2 ^ 8 := a.toNat_lt
  have hb : b.toNat < 2 ^ 8 := b.toNat_lt
  have hx : a.toNat ^^^ b.toNat < 2 ^ 8 := Nat.xor_lt_two_pow ha hb
  rw [BitVec.toNat_xor, BitVec.ofInt_natCast, BitVec.ofInt_natCast, BitVec.toNat_ofNat, BitVec.toNat_ofNat, Nat.mod_eq_of_lt ha, Nat.mod_eq_of_lt hb, UInt8.toNat_xor, IntKind.wrap_u8]
  omega
theorem xor8_ne (a b : UInt8) (hb : b ≠ 0) : a ^^^ b ≠ a := fun h => hb (by
  have e : a ^^^ (a ^^^ b) = a ^^^ a := by rw [h]
  rw [← UInt8.xor_assoc, UInt8.xor_self, UInt8.zero_xor] at e
  exact e)
theorem spoil_row (w : World) (s : ByteArray) (i : Nat) (hi : i < s.size) (y : UInt8) : ∃ cap w4, (convert 9 30 (.string s)).run Tryz.prog w = .ok (.slice (some ⟨w.heap.size, 0, none⟩) s.size cap) w4 ∧ Below w.heap.size w w4 ∧
    w4.cell? ⟨w.heap.size, i, none⟩ = some (.int .u8 ((s.data.toList.getD i 0).toNat : Int)) ∧ w4.frozen? ⟨w.heap.size, i, none⟩ = false ∧
    Below w.heap.size w (w4.setCell ⟨w.heap.size, i, none⟩ (.int .u8 ((s.data.toList.getD i 0 ^^^ y).toNat : Int))) ∧
    (convert 30 9 (.slice (some ⟨w.heap.size, 0, none⟩) s.size cap)).run Tryz.prog (w4.setCell ⟨w.heap.size, i, none⟩ (.int .u8 ((s.data.toList.getD i 0 ^^^ y).toNat : Int))) = .ok (.string ⟨(s.data.toList.set i (s.data.toList.getD i 0 ^^^ y)).toArray⟩) (w4.setCell ⟨w.heap.size, i, none⟩ (.int .u8 ((s.data.toList.getD i 0 ^^^ y).toNat : Int))) := by
  obtain ⟨cap, w4, cells, fz, h1, h2, h3, h4, h5, h6, h7, h8, _, _⟩ := bytes_of w s
  have hc : ∀ k, k < s.size → w4.cell? ⟨w.heap.size, k, none⟩ = some (.int .u8 ((s.data.toList.getD k 0).toNat : Int)) := fun k hk => by
    rw [cell_of h4, ← Array.getElem?_toList]
    have : (cells.toList.take s.size)[k]? = (bc s.data.toList)[k]? := by rw [h7]
    rw [List.getElem?_take, if_pos hk] at this
    rw [this, bc_get _ k (by simpa using hk), List.getD_eq_getElem?_getD, List.getElem?_eq_getElem (by simpa using hk)]
    rfl
  refine ⟨cap, w4, h1, h2, hc i hi, h8 i (by omega), h2.setCell (Nat.le_refl _) _, ?_⟩
  have hl : (s.data.toList.set i (s.data.toList.getD i 0 ^^^ y)).length = s.size := by simp
  have := run_convert_bytes_back (P := Tryz.prog) (w4.setCell ⟨w.heap.size, i, none⟩ (.int .u8 ((s.data.toList.getD i 0 ^^^ y).toNat : Int))) 30 9 5 ⟨w.heap.size, 0, none⟩ cap (s.data.toList.set i (s.data.toList.getD i 0 ^^^ y)) Tryz.underlying30 Tryz.underlying5 Tryz.underlying9 (fun j hj => by
    rw [hl] at hj
    rw [add0]
    by_cases e : i = j
    · subst e
      rw [World.cell?_setCell_same _ _ _ (hc _ hj), List.getElem_set_self]
    · rw [World.cell?_setCell_other _ _ _ _ (by intro h; injection h with _ h; exact e h), hc j hj, List.getElem_set_ne e, List.getD_eq_getElem?_getD, List.getElem?_eq_getElem (by simpa using hj)]
      rfl)
  rw [hl] at this
  exact this
theorem spoilt_read {v u : List Int} {l m : List ByteArray} {p q : ByteArray} {i : Nat} {y : UInt8} (hi : i < (lbytes v l p).length) (hy : y ≠ 0) (h : lbytes u m q = (lbytes v l p).set i ((lbytes v l p).getD i 0 ^^^ y)) :
    ¬ (v = u ∧ l = m ∧ p = q) ∧ dg (lst (lbody v l p)).bytes = dg (lst (lbody u m q)).bytes := by
  refine ⟨?_, spoilt_dg h⟩
  rintro ⟨rfl, rfl, rfl⟩
  have e := congrArg (fun L => L[i]?) h
  simp only [List.getElem?_set_self hi] at e
  rw [List.getElem?_eq_getElem hi, List.getD_eq_getElem?_getD, List.getElem?_eq_getElem hi] at e
  exact xor8_ne _ _ hy (Option.some.inj e).symm
set_option maxRecDepth 100000 in
set_option maxHeartbeats 8000000 in
theorem spoilt17_walk (hRS : RSumSaid) (v0 v1 v2 v3 v4 v5 : Int) (A : Option Addr) (c : Nat) (l : List ByteArray) (p : ByteArray) (a : Int) (y : UInt8) (w : World) (hL : Lw w) (hC : Kd.C Kd.string w A l.length l) (hc : l.length ≤ c) (hs : ∀ x ∈ l, x.size ≤ 140737488351232) :
    Calls Tryz.prog 3 #[.agg (letCells v0 v1 v2 v3 v4 v5 A l.length c p), .int .i64 a, .int .u8 (y.toNat : Int)] w fun ev w' => ev = .returned (.bool true) ∧ Below w.heap.size w w' := by
  obtain ⟨g, hg⟩ : ∃ g, g = w.heap.size := ⟨_, rfl⟩
  obtain ⟨w1, hw1⟩ : ∃ w1, w1 = w.alloc (.cells (letCells v0 v1 v2 v3 v4 v5 A l.length c p) 24) := ⟨_, rfl⟩
  have hS1 := Lib.hid (show St w w1 g (letCells v0 v1 v2 v3 v4 v5 A l.length c p) by rw [hw1, hg]; exact St.new _ _ _ (Below.refl _ _))
  have C0 := Lib.hid (fun W h => awake17_c W h)
  have hLH := Lib.hid hL
  have hCH := Lib.hid hC
  have hcH := Lib.hid hc
  have hsH := Lib.hid hs
  clear hL hC hc hs
  have CW := fun W (h : Below w.heap.size w W) (hn : l.length ≤ 128) => Lib.hid (wwrite_c v0 v1 v2 v3 v4 v5 A c l p W (Kd.C_below hCH.out h) hcH.out (by omega) hsH.out (hLH.out.below h).2.1 (hLH.out.below h).2.2)
  have CS := fun (u0 u1 u2 u3 u4 u5 : Int) (B : Option Addr) (d : Nat) (m : List ByteArray) (q : ByteArray) W (h : Below w.heap.size w W) (hB : Kd.C Kd.string W B m.length m) (hd : m.length ≤ d) => Lib.hid (same17_c v0 v1 v2 v3 v4 v5 A c l p u0 u1 u2 u3 u4 u5 B d m q W (Kd.C_below hCH.out h) hcH.out hB hd)
  have CD := fun W (h : Below w.heap.size w W) (hr : wright [v0, v1, v2, v3, v4, v5] l p = true) => Lib.hid (rdigest_c hRS v0 v1 v2 v3 v4 v5 A c l p W (Kd.C_below hCH.out h) hcH.out hr)
  have CR := fun (s : ByteArray) (hs : s.size ≤ 65536) W (h : Below w.heap.size w W) => Lib.hid (wread_c s W hs (hLH.out.below h).1 (hLH.out.below h).2.1 (hLH.out.below h).2.2)
  unfold WrPost at CW
  obtain ⟨n, hN⟩ : ∃ n, n = l.length := ⟨_, rfl⟩
  unfold letCells at hw1 hS1 CW CS CD ⊢
  rw [← hN] at hw1 hS1 CW CS CD ⊢
  replace hN := Lib.hid hN
  go_enter Tryz.func3, Tryz.ntmps3
  go_upto_region 1 with fail
  rw [← hw1, ← hg]
  replace hw1 := Lib.hid hw1
  replace hg := Lib.hid hg
  go_wp2_with fail
  refine (C0.out w1 (hLH.out.below hS1.out.1)).mono ?_
  rintro ev w2 ⟨rfl, hb⟩
  have hS2 := Lib.hid (hS1.out.step hb)
  clear hb
  obtain ⟨f0, f1, f2, f3, f4, f5, f6, f7, _, _⟩ := let_facts hS2.out.2
  by_cases h3 : (128 : Int) < (n : Int)
  · go_wp2_with fail
    go_ret
    exact ⟨rfl, hS2.out.1⟩
  by_cases h4 : (3000 : Int) < (p.size : Int)
  · go_wp2_with fail
    go_ret
    exact ⟨rfl, hS2.out.1⟩
  by_cases h5 : ((y.toNat : Int) == 0) = true
  · go_wp2_with fail
    go_ret
    exact ⟨rfl, hS2.out.1⟩
  rw [Bool.not_eq_true] at h5
  have hy : y ≠ 0 := fun e => by subst e; cases h5
  have hn : n ≤ 128 := by omega
  replace CW := Lib.hid (fun W h => (CW W h hn).out)
  cases hr : wright [v0, v1, v2, v3, v4, v5] l p with
  | false =>
    clear CR CS CD
    replace CW := Lib.hid (show ∀ W, Below w.heap.size w W → _ from fun W h => by have := CW.out W h; rw [hr] at this; simp only [Bool.false_eq_true, if_false, errno] at this; exact this)
    clear hr hy
    go_upto_region 5 with fail
    go_wp2_with fail
    refine (CW.out w2 hS2.out.1).mono ?_
    rintro ev w3 ⟨rfl, hb⟩
    have hS3 := Lib.hid (hS2.out.step hb)
    clear hb
    go_wp2_with fail
    go_ret
    exact ⟨rfl, hS3.out.1⟩
  | true =>
    obtain ⟨s, hs⟩ : ∃ s : ByteArray, s = ⟨(lbytes [v0, v1, v2, v3, v4, v5] l p).toArray⟩ := ⟨_, rfl⟩
    have hsz : s.size ≤ 65536 := by rw [hs]; exact lbytes_size rfl hr
    have hsl := Lib.hid (show s.data.toList = lbytes [v0, v1, v2, v3, v4, v5] l p by rw [hs])
    replace CW := Lib.hid (show ∀ W, Below w.heap.size w W → _ from fun W h => by have := CW.out W h; rw [hr] at this; simp only [if_true, ← hs] at this; exact this)
    replace CD := fun W h => Lib.hid (CD W h hr).out
    replace hs := Lib.hid hs
    have hszH := Lib.hid hsz
    have hyH := Lib.hid hy
    clear hr hy hsz
    go_upto_region 5 with fail
    go_wp2_with fail
    refine (CW.out w2 hS2.out.1).mono ?_
    rintro ev w3 ⟨rfl, hb⟩
    have hS3 := Lib.hid (hS2.out.step hb)
    clear hb f0 f1 f2 f3 f4 f5 f6 f7
    by_cases h6 : a < 0
    · go_wp2_with fail
      go_ret
      exact ⟨rfl, hS3.out.1⟩
    by_cases h7 : (s.size : Int) ≤ a
    · go_wp2_with fail
      go_ret
      exact ⟨rfl, hS3.out.1⟩
    obtain ⟨i, rfl⟩ : ∃ i : Nat, a = (i : Int) := ⟨a.toNat, by omega⟩
    have hi : i < s.size := by omega
    have hli : (i : Int) < (s.size : Int) := by omega
    obtain ⟨cap, w4, hcv, hb4, hcc, hff, hb5, hcb⟩ := spoil_row w3 s i hi y
    obtain ⟨x, hx⟩ : ∃ x, x = s.data.toList.getD i 0 := ⟨_, rfl⟩
    rw [← hx] at hcc hb5 hcb
    obtain ⟨T, hT⟩ : ∃ T : ByteArray, T = ⟨(s.data.toList.set i (x ^^^ y)).toArray⟩ := ⟨_, rfl⟩
    have hTl := Lib.hid (show T.data.toList = s.data.toList.set i (x ^^^ y) by rw [hT])
    have hTs : T.size ≤ 65536 := by
      have : T.size = s.size := by
        rw [← toList_size, hTl.out, List.length_set, toList_size]
      rw [this]; exact hszH.out
    rw [← hT] at hcb
    rw [← xor8] at hcb hb5
    replace hT := Lib.hid hT
    replace hx := Lib.hid hx
    obtain ⟨G, hG⟩ : ∃ G, G = w3.heap.size := ⟨_, rfl⟩
    rw [← hG] at hcv hcc hff hcb hb5
    replace hG := Lib.hid hG
    replace hb5 := Lib.hid (hS3.out.step (by rw [← hG.out]; exact hb5))
    have CRT := Lib.hid (fun W h => (CR T hTs W h).out)
    have hiH := Lib.hid hi
    clear hb4 hTs CR hi
    go_upto_region 8 with fail
    go_upto_region 9 with fail
    go_upto_region 10 with fail
    obtain ⟨w5, hw5⟩ : ∃ w5, w5 = w4.setCell ⟨G, i, none⟩ (.int .u8 (bits .xor .u8 (x.toNat : Int) (y.toNat : Int))) := ⟨_, rfl⟩
    rw [← hw5] at hcb hb5 ⊢
    replace hw5 := Lib.hid hw5
    clear hcv hcc hff
    go_wp2_with fail
    refine (CRT.out w5 hb5.out.1).mono ?_
    rintro ev w6 ⟨hb, hcase⟩
    have hS6 := Lib.hid (hb5.out.step hb)
    clear hb hcb
    rcases hcase with ⟨u0, u1, u2, u3, u4, u5, B, d, m, q, hrm, hTm, rfl, hB, hd⟩ | ⟨hno, b, rfl, hbl, hbc⟩
    · have hsp := Lib.hid (spoilt_read (v := [v0, v1, v2, v3, v4, v5]) (u := [u0, u1, u2, u3, u4, u5]) (l := l) (m := m) (p := p) (q := q) (i := i) (y := y) (by rw [← hsl.out, toList_size]; exact hiH.out) hyH.out (by rw [← hTm, hTl.out, hx.out, ← hsl.out]))
      obtain ⟨k, hk⟩ : ∃ k, k = w6.heap.size := ⟨_, rfl⟩
      obtain ⟨w7, hw7⟩ : ∃ w7, w7 = w6.alloc (.cells (letCells u0 u1 u2 u3 u4 u5 B m.length d q) 24) := ⟨_, rfl⟩
      have hb67 : Below w6.heap.size w6 w7 := by rw [hw7]; exact below_alloc _ _
      have hM7 := Lib.hid (show St w w7 k (letCells u0 u1 u2 u3 u4 u5 B m.length d q) by rw [hw7, hk]; exact St.new _ _ _ hS6.out.1)
      have hS7 := Lib.hid (hS6.out.step hb67)
      have hB7 := Lib.hid (Kd.C_below hB hb67)
      have CE := fun W (h : Below w7.heap.size w7 W) => Lib.hid (rdigest_c hRS u0 u1 u2 u3 u4 u5 B d m q W (Kd.C_below hB7.out h) hd hrm)
      replace CS := fun W (h : Below w7.heap.size w7 W) => Lib.hid (CS u0 u1 u2 u3 u4 u5 B d m q W (hS7.out.step h).1 (Kd.C_below hB7.out h) hd).out
      replace CD := fun W (h : Below w7.heap.size w7 W) => Lib.hid (CD W (hS7.out.step h).1).out
      rw [← hsp.out.2] at CE
      rw [decide_eq_false hsp.out.1] at CS
      generalize dg (lst (lbody [v0, v1, v2, v3, v4, v5] l p)).bytes = D at *
      obtain ⟨e, he⟩ : ∃ e, e = m.length := ⟨_, rfl⟩
      unfold letCells at hw7 hM7 CE ⊢
      rw [← he] at hw7 hM7 CE CS ⊢
      clear hsp hB hd hrm hTm hb67
      replace he := Lib.hid he
      obtain ⟨f0, f1, f2, f3, f4, f5, f6, f7, _, _⟩ := let_facts hS7.out.2
      obtain ⟨m0, m1, m2, m3, m4, m5, m6, m7, _, _⟩ := let_facts hM7.out.2
      go_upto_region 11 with fail
      rw [← hw7, ← hk]
      replace hw7 := Lib.hid hw7
      replace hk := Lib.hid hk
      go_upto_region 13 with fail
      have a0 := Lat.cell f0
      have a1 := Lat.cell f1
      have a2 := Lat.cell f2
      have a3 := Lat.cell f3
      have a4 := Lat.cell f4
      have a5 := Lat.cell f5
      have a6 := Lat.cell f6
      have a7 := Lat.cell f7
      have b0 := Lat.cell m0
      have b1 := Lat.cell m1
      have b2 := Lat.cell m2
      have b3 := Lat.cell m3
      have b4 := Lat.cell m4
      have b5 := Lat.cell m5
      have b6 := Lat.cell m6
      have b7 := Lat.cell m7
      have LS := Lib.hid (fun x : Lat w7 => lat_of (CS _ x.below).out)
      have LD := Lib.hid (fun x : Lat w7 => lat_of (CD _ x.below).out)
      have LE := Lib.hid (fun x : Lat w7 => lat_of (CE _ x.below).out)
      clear f0 f1 f2 f3 f4 f5 f6 f7 m0 m1 m2 m3 m4 m5 m6 m7 CS CD CE CRT h3 h4 h5 h6 h7 hn hli
      refine wp_region_lat (by kernel_rfl) (by kernel_rfl) ?_
      repeat (go_big_quiet_step (fail))
      go_big_quiet_step ((go_at_call 9; exact LS.out _))
      repeat (go_big_quiet_step (fail))
      go_big_quiet_step ((go_at_call 10; exact LD.out _))
      repeat (go_big_quiet_step (fail))
      go_big_quiet_step ((go_at_call 10; exact LE.out _))
      repeat (go_big_quiet_step (fail))
      refine wpQuiet_nil ?_
      intro _ hw'
      obtain ⟨xl, hw''⟩ := hw'
      subst hw''
      have hbx := Lib.hid xl.below
      clear a0 a1 a2 a3 a4 a5 a6 a7 b0 b1 b2 b3 b4 b5 b6 b7
      go_wp2_with fail
      go_ret
      exact ⟨rfl, (hS7.out.step hbx.out).1⟩
    · have nC : ∀ W, Kd.C Kd.string W none ([] : List ByteArray).length [] := fun W => ⟨rfl, by simp, fun h => absurd h (by simp)⟩
      have CZ := Lib.hid (fun W => same17_c 0 0 0 0 0 0 none 0 [] ⟨#[]⟩ 0 0 0 0 0 0 none 0 [] ⟨#[]⟩ W (nC W) (Nat.le_refl _) (nC W) (Nat.le_refl _))
      simp only [and_self, decide_true, List.length_nil] at CZ
      clear hno hbl hbc CS CD
      obtain ⟨k, hk⟩ : ∃ k, k = w6.heap.size := ⟨_, rfl⟩
      obtain ⟨w7, hw7⟩ : ∃ w7, w7 = w6.alloc (.cells (letCells 0 0 0 0 0 0 none 0 0 ⟨#[]⟩) 24) := ⟨_, rfl⟩
      have hM7 := Lib.hid (show St w w7 k (letCells 0 0 0 0 0 0 none 0 0 ⟨#[]⟩) by rw [hw7, hk]; exact St.new _ _ _ hS6.out.1)
      unfold letCells at hw7 hM7 CZ ⊢
      obtain ⟨m0, m1, m2, m3, m4, m5, m6, m7, _, _⟩ := let_facts hM7.out.2
      go_upto_region 11 with fail
      rw [← hw7, ← hk]
      replace hw7 := Lib.hid hw7
      replace hk := Lib.hid hk
      go_upto_region 12 with fail
      go_wp2_with fail
      refine (CZ.out w7).mono ?_
      rintro ev w8 ⟨rfl, hb⟩
      have hM8 := Lib.hid (hM7.out.step hb)
      clear hb
      go_wp2_with fail
      go_ret
      exact ⟨rfl, hM8.out.1⟩
end Go.Proofs.YtbefkoljcacpcaaGreatDoor.Wi
