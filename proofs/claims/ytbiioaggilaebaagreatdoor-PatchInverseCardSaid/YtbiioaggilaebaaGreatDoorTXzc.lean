/- What LawPatchInverse lean on, part zc of 29: the texts PiE, PiF, CardP, PsI, PsJ, PsJa. -/
import Derived.Test.YtbiioaggilaebaaGreatDoorTX0
import Derived.Test.YtbiioaggilaebaaGreatDoorTXg
import Derived.Test.YtbiioaggilaebaaGreatDoorTXv
import Derived.Test.YtbiioaggilaebaaGreatDoorTXw
import Derived.Test.YtbiioaggilaebaaGreatDoorTXy
import Derived.Test.YtbiioaggilaebaaGreatDoorTXza
import Derived.Test.YtbiioaggilaebaaGreatDoorTXzb
import Derived.Test.YtbiioaggilaebaaGreatDoorRows
import Derived.Lib.LaidTab
import Derived.Stop.LaidErr
import Derived.LaidSub
import Derived.MakeChecks
set_option linter.all false
set_option maxRecDepth 100000
set_option maxHeartbeats 16000000
namespace Go.Proofs.YtbiioaggilaebaaGreatDoor.Pa
open Go Go.RowKit YtbiioaggilaebaaGreatDoorW.PrintWords B Tm Wi
theorem rinverse_bad (note : ByteArray) (D : Option Addr) (dc : Nat) (deps : List ByteArray) (A : Option Addr) (ac : Nat) (ops : List Op) (w : World) (hp : pright note deps ops = false) (hD : TxAt w D dc deps) (hO : OpsAt w A ac ops) :
 Calls Tryz.prog 27 #[.agg #[.string note, .slice D deps.length dc, .slice A ops.length ac]] w fun e w' => e = .returned (.tuple #[.agg #[.string ⟨#[]⟩, .slice none 0 0, .slice none 0 0], .int .i64 10]) /\ Below w.heap.size w w' := by
 obtain ⟨R, hR⟩ : ∃ R : Ending -> World -> Prop, R = fun e w' => e = .returned (.tuple #[.agg #[.string ⟨#[]⟩, .slice none 0 0, .slice none 0 0], .int .i64 10]) /\ Below w.heap.size w w' := ⟨_, rfl⟩
 rw [<- hR]
 replace hR := lh hR
 obtain ⟨P1, hP1⟩ : ∃ P1, P1 = w.heap.size := ⟨_, rfl⟩
 obtain ⟨w1, hw1⟩ : ∃ w1, w1 = w.alloc (.cells #[.string note, .slice D deps.length dc, .slice A ops.length ac] 25) := ⟨_, rfl⟩
 obtain ⟨w2, hw2⟩ : ∃ w2, w2 = w1.alloc (.cells #[.string ⟨#[]⟩, .slice none 0 0, .slice none 0 0] 25) := ⟨_, rfl⟩
 have hs1 : w1.heap.size = P1 + 1 := by rw [hw1, hP1]; simp
 have hb2 := lh (show Below w.heap.size w w2 by rw [hw2, hw1]; exact ((Below.refl _ _).alloc (Nat.le_refl _) _).alloc (by simp) _)
 have hpt2 := lh (show PatAt w2 P1 note D deps.length dc A ops.length ac by unfold PatAt; rw [hw2, heap_alloc_lt _ _ _ (by omega), hw1, hP1]; exact heap_alloc_at _ _)
 have hrs2 := lh (show w2.heap[P1 + 1]? = some (.cells #[.string ⟨#[]⟩, .slice none 0 0, .slice none 0 0] 25 (0, 0)) by rw [hw2, <- hs1]; exact heap_alloc_at _ _)
 have CN := lh (show Calls Tryz.prog 17 #[.agg #[.string note, .slice D deps.length dc, .slice A ops.length ac]] w2 fun e w' => e = .returned (.tuple #[.string ⟨#[]⟩, .int .i64 10]) /\ Below w2.heap.size w2 w' by
  have := rname5_c note D dc deps A ac ops w2 (hD.below hb2.out) (hO.below hb2.out)
  unfold rnmOf at this
  rw [hp, if_neg (by simp)] at this
  exact this)
 have hPw := lh (show w.heap.size <= P1 + 1 by omega)
 clear hp hD hO
 obtain ⟨nd, hnd⟩ : ∃ nd, nd = deps.length := ⟨_, rfl⟩
 obtain ⟨no, hno⟩ : ∃ no, no = ops.length := ⟨_, rfl⟩
 rw [<- hnd, <- hno] at hw1 CN hpt2 ⊢
 replace hnd := lh hnd
 replace hno := lh hno
 obtain ⟨p0, p1, p2, _, _⟩ := blk3' hpt2.out
 go_enter Tryz.func27, Tryz.ntmps27
 go_upto_region 1 with fail
 rw [<- hw1, <- hP1]
 try rw [hs1]
 rw [<- hw2]
 replace hw1 := lh hw1
 replace hw2 := lh hw2
 replace hs1 := lh hs1
 replace hP1 := lh hP1
 go_wp2_with fail
 refine (CN.out).mono ?_
 rintro ev w3 ⟨rfl, hb3⟩
 have hb3w := lh (hb2.out.trans (hb3.mono hb2.out.size))
 have hrs3 := lh ((hb3.block _ (heap_lt hrs2.out)).trans hrs2.out)
 clear hb3 p0 p1 p2 CN
 obtain ⟨r0, r1, r2, rsh, rfz⟩ := blk3' hrs3.out
 go_wp2_with fail
 (try simp only [Exit.inBlock, Exit.then])
 refine bodyPost_ret (Go.Proofs.YtbiioaggilaebaaGreatDoor.Tm.results_cell_tmp rfl _ _ (P1 + 1) 25 #[.string ⟨#[]⟩, .slice none 0 0, .slice none 0 0] (0, 0) _ rfl (set3 hrs3.out) Tryz.underlying25 rfl (by kernel_rfl) _ rfl) rfl ?_
 rw [hR.out]
 exact ⟨rfl, ((hb3w.out.setCell hPw.out _).setCell hPw.out _).setCell hPw.out _⟩
end Go.Proofs.YtbiioaggilaebaaGreatDoor.Pa
namespace Go.Proofs.YtbiioaggilaebaaGreatDoor.Pa
open Go Go.RowKit YtbiioaggilaebaaGreatDoorW.PrintWords B Tm Wi
theorem stepI_k (n : Int) (o : Op) (h : 1 <= o.k /\ o.k <= 5) (x : Op) (hx : x ∈ stepI n o) : x.k ≠ 1 := by
 unfold stepI at hx
 split at hx
 . unfold dels at hx
   obtain ⟨i, _, rfl⟩ := List.mem_map.1 hx
   show (4 : Int) ≠ 1
   decide
 . split at hx
   . rw [List.mem_singleton] at hx
     subst hx
     show 5 - o.k ≠ 1
     omega
   . rw [List.mem_singleton] at hx
     subst hx
     show 9 - o.k ≠ 1
     omega
theorem binv_k : ∀ (l : List Op) (n : Int), (∀ o ∈ l, 1 <= o.k /\ o.k <= 5) -> ∀ x ∈ binv n l, x.k ≠ 1
 | [], n, _, x, hx => by rw [binv] at hx; cases hx
 | o :: l, n, h, x, hx => by
  rw [binv, List.mem_append] at hx
  rcases hx with hx | hx
  . exact stepI_k n o (h o (by simp)) x hx
  . exact binv_k l _ (fun p hp => h p (by simp [hp])) x hx
theorem made_zero : ∀ l : List Op, (∀ o ∈ l, o.k ≠ 1) -> made l = 0
 | [], _ => made_nil
 | o :: l, h => by
  rw [made_cons, made_zero l (fun p hp => h p (by simp [hp]))]
  unfold mk1
  rw [if_neg (h o (by simp))]
theorem iops_made (name : ByteArray) (deps : List ByteArray) (ops : List Op) (h : ∀ o ∈ ops, 1 <= o.k /\ o.k <= 5) : made (iops name deps ops) = 0 := by
 refine made_zero _ (fun o ho => ?_)
 unfold iops at ho
 obtain ⟨p, hp, rfl⟩ := List.mem_map.1 ho
 have hk : (tnOp deps (ideps name deps ops) name p).k = p.k := by
  unfold tnOp
  split <;> rfl
 rw [hk]
 unfold bops at hp
 exact binv_k _ _ (fun o ho => h o (List.mem_reverse.1 ho)) p hp
theorem ideps_name (name : ByteArray) (deps : List ByteArray) (ops : List Op) (h : ∀ o ∈ ops, 1 <= o.k /\ o.k <= 5) : 0 <= place (ideps name deps ops) name := by
 rw [place_mem, <- ideps_eq name deps ops h]
 obtain ⟨_, h2⟩ := fold_radd (ops.flatMap (rneed deps)) [name] (by simp [toL, SS])
 unfold rdepsF
 rw [h2]
 exact .inl (by simp)
theorem inv_com (note : ByteArray) (deps : List ByteArray) (ops : List Op) (note' : ByteArray) (h : ∀ o ∈ ops, 1 <= o.k /\ o.k <= 5) : com note deps ops note' (ideps (pname note deps ops) deps ops) (iops (pname note deps ops) deps ops) = false := by
 unfold com
 have h1 := ideps_name (pname note deps ops) deps ops h
 rw [decide_eq_false (p := place (ideps (pname note deps ops) deps ops) (pname note deps ops) < 0) (by omega)]
 simp
end Go.Proofs.YtbiioaggilaebaaGreatDoor.Pa
namespace Go.Proofs.YtbiioaggilaebaaGreatDoor.Pa
open Go Go.RowKit Go.WideShapes Go.ChangeShapes YtbiioaggilaebaaGreatDoorW.PrintWords B Tm Wi
theorem at_field {l : List Value} {k n : Nat} {x : Value} (h : (l.drop k).take n = [x]) : l[k]? = some x := by
 have e := congrArg (fun L => L[0]?) h
 simp only [List.getElem?_cons_zero, List.getElem?_take, List.getElem?_drop, Nat.add_zero] at e
 split at e
 . exact e
 . cases e
theorem C_of_rsl {w : World} {A : Option Addr} {n c : Nat} {xs : List ByteArray} (h : Rd.RSl 1 Rd.RStr w [.slice A n c] xs) : Kd.C Kd.string w A n xs /\ n <= c /\ ∀ x ∈ xs, x.size <= 140737488351232 := by
 obtain ⟨h1, h2, h3, h4⟩ := Rd.sl_at h
 subst h1
 have hl : xs.length <= 9223372036854775807 := by omega
 refine ⟨⟨rfl, hl, fun h0 => ?_⟩, h2, fun x hx => ?_⟩
 . obtain ⟨b, off, rfl, hc⟩ := h4 h0
   refine ⟨_, rfl, fun j p hj => ?_⟩
   obtain ⟨hjl, hjp⟩ := List.getElem?_eq_some_iff.1 hj
   obtain ⟨es, e1, e2, e3⟩ := hc j hjl
   rw [hjp] at e3
   refine ⟨es, e1, e3.1, fun i u hu => ?_⟩
   have hi := (List.getElem?_eq_some_iff.1 hu).1
   rw [add_off, show off + (j * Kd.string.sz + i) = off + j * 1 + i from by show off + (j * 1 + i) = _; omega, e2 i (by omega)]
   exact hu
 . obtain ⟨i, hi, rfl⟩ := List.mem_iff_getElem.1 hx
   obtain ⟨b, off, _, hc⟩ := h4 (by omega)
   obtain ⟨es, _, _, e3⟩ := hc i hi
   exact e3.2
def RRef : Rd.Rel (Int × Int) := fun _ cs x => cs = [.int .i64 x.1, .int .i64 x.2]
def ROp : Rd.Rel Op := fun w cs x => ∃ L c, cs = (opCells x L c).toList /\ TxAt w L c x.ls
theorem tx_of_rsl {w : World} {A : Option Addr} {n c : Nat} {xs : List ByteArray} (h : Rd.RSl 1 Rd.RStr w [.slice A n c] xs) : n = xs.length /\ TxAt w A c xs := by
 have h' := h
 obtain ⟨A', c', e, h1, h2, _⟩ := h'
 cases e
 obtain ⟨k1, k2, k3⟩ := C_of_rsl h
 exact ⟨rfl, k1, k2, by omega, k3⟩
theorem opens_ref {H : Type} {enc : TypeId × Value -> H} (w : World) : Rd.Opens enc Tryz.prog w 36 RRef := by
 intro fuel cs y h hw
 obtain ⟨hl, S⟩ := Rd.struct_fields Tryz.underlying36 h hw
 have oI : Rd.Opens enc Tryz.prog w 3 (Rd.RInt .i64) := Rd.opens_int Tryz.underlying3
 obtain ⟨v0, e0, _⟩ := S Int 0 _ (Rd.RInt .i64) rfl oI
 obtain ⟨v1, e1, _⟩ := S Int 1 _ (Rd.RInt .i64) rfl oI
 have f0 : cs[0]? = _ := at_field e0
 have f1 : cs[1]? = _ := at_field e1
 have h2 : cs.length = 2 := hl.trans (by kernel_rfl)
 refine ⟨(v0, v1), ?_⟩
 match cs, h2 with
 | [c0, c1], _ =>
  simp only [List.getElem?_cons_zero, List.getElem?_cons_succ, Option.some.injEq] at f0 f1
  subst f0 f1
  rfl
theorem opens_op {H : Type} {enc : TypeId × Value -> H} (w : World) : Rd.Opens enc Tryz.prog w 38 ROp := by
 intro fuel cs y h hw
 obtain ⟨hl, S⟩ := Rd.struct_fields Tryz.underlying38 h hw
 have oI : Rd.Opens enc Tryz.prog w 3 (Rd.RInt .i64) := Rd.opens_int Tryz.underlying3
 have oL : Rd.Opens enc Tryz.prog w 22 (Rd.RSl 1 Rd.RStr) := Rd.opens_sl (size := 1) Tryz.underlying22 (by kernel_rfl) (by omega) (of_decide_eq_true (by kernel_rfl)) (Rd.opens_str Tryz.underlying9)
 obtain ⟨v0, e0, _⟩ := S Int 0 _ (Rd.RInt .i64) rfl oI
 obtain ⟨va, ea⟩ := S (Int × Int) 1 _ RRef rfl (opens_ref w)
 obtain ⟨vb, eb⟩ := S (Int × Int) 2 _ RRef rfl (opens_ref w)
 obtain ⟨l, h3⟩ := S (List ByteArray) 3 _ (Rd.RSl 1 Rd.RStr) rfl oL
 have h3' := h3
 obtain ⟨A, c, e3, _⟩ := h3'
 rw [e3] at h3
 obtain ⟨_, hT⟩ := tx_of_rsl h3
 unfold RRef at ea eb
 have h6 : cs.length = 6 := hl.trans (by kernel_rfl)
 have f0 : cs[0]? = _ := at_field e0
 have k2 : Tryz.prog.cellsOf 36 = 2 := by kernel_rfl
 have f5 : cs[5]? = _ := at_field e3
 refine ⟨⟨v0, va.1, va.2, vb.1, vb.2, l⟩, A, c, ?_, hT⟩
 match cs, h6 with
 | [c0, c1, c2, c3, c4, c5], _ =>
  have ea' : ([c0, c1, c2, c3, c4, c5].drop 1).take (Tryz.prog.cellsOf 36) = [.int .i64 va.1, .int .i64 va.2] := ea
  have eb' : ([c0, c1, c2, c3, c4, c5].drop 3).take (Tryz.prog.cellsOf 36) = [.int .i64 vb.1, .int .i64 vb.2] := eb
  rw [k2] at ea' eb'
  simp only [List.drop_succ_cons, List.drop_zero, List.take_succ_cons, List.take_zero, List.cons.injEq, and_true] at ea' eb'
  simp only [List.getElem?_cons_zero, List.getElem?_cons_succ, Option.some.injEq] at f0 f5
  obtain ⟨rfl, rfl⟩ := ea'
  obtain ⟨rfl, rfl⟩ := eb'
  subst f0 f5
  rfl
theorem ops_of_rsl {w : World} {A : Option Addr} {n c : Nat} {xs : List Op} (h : Rd.RSl 6 ROp w [.slice A n c] xs) : n = xs.length /\ OpsAt w A c xs := by
 obtain ⟨A', c', e, h1, h2, h3⟩ := h
 cases e
 refine ⟨rfl, h1, by omega, fun h0 => ?_⟩
 obtain ⟨b, off, rfl, hc⟩ := h3 h0
 refine ⟨b, off, rfl, fun j hj => ?_⟩
 obtain ⟨es, e1, e2, L, cl, e3, hT⟩ := hc j hj
 refine ⟨L, cl, fun i hi => ?_, hT⟩
 rw [e2 i hi, e3, Array.getElem?_toList]
theorem patch_open {H : Type} {enc : TypeId × Value -> H} (v : Value) {d : DataW H} {ps : List MemPlace} (w : World) {base : Nat}
 (hv : Value.okWide Tryz.prog w .any base 25 v) (h : DataW.Trod enc Tryz.prog w 0 (fun _ => true) true 25 v d ps) (hw : ∀ n ∈ d.weights Tryz.prog 25, n <= reachBytes) :
 ∃ note D dc deps A ac ops, v = .agg #[.string note, .slice D deps.length dc, .slice A ops.length ac] /\ TxAt w D dc deps /\ OpsAt w A ac ops /\ note.size <= 140737488351232 := by
 obtain ⟨cs, rfl, hsz⟩ := okWide_struct Tryz.underlying25 hv
 obtain ⟨fuel, hf⟩ := h
 obtain ⟨hl, S⟩ := Rd.struct_fields Tryz.underlying25 hf hw
 have oL : Rd.Opens enc Tryz.prog w 22 (Rd.RSl 1 Rd.RStr) := Rd.opens_sl (size := 1) Tryz.underlying22 (by kernel_rfl) (by omega) (of_decide_eq_true (by kernel_rfl)) (Rd.opens_str Tryz.underlying9)
 have oO : Rd.Opens enc Tryz.prog w 23 (Rd.RSl 6 ROp) := Rd.opens_sl (size := 6) Tryz.underlying23 (by kernel_rfl) (by omega) (of_decide_eq_true (by kernel_rfl)) (opens_op w)
 have oS : Rd.Opens enc Tryz.prog w 9 Rd.RStr := Rd.opens_str Tryz.underlying9
 obtain ⟨note, e0, hnote⟩ := S ByteArray 0 _ Rd.RStr rfl oS
 obtain ⟨deps, h1⟩ := S (List ByteArray) 1 _ (Rd.RSl 1 Rd.RStr) rfl oL
 obtain ⟨ops, h2⟩ := S (List Op) 2 _ (Rd.RSl 6 ROp) rfl oO
 have h1' := h1
 obtain ⟨D, dc, e1, _⟩ := h1'
 rw [e1] at h1
 obtain ⟨_, hD⟩ := tx_of_rsl h1
 have h2' := h2
 obtain ⟨A, ac, e2, _⟩ := h2'
 rw [e2] at h2
 obtain ⟨_, hO⟩ := ops_of_rsl h2
 have hcs : (Value.agg cs).cells = cs := rfl
 rw [hcs] at e0 e1 e2
 have f0 : cs.toList[0]? = _ := at_field e0
 have f1 : cs.toList[1]? = _ := at_field e1
 have f2 : cs.toList[2]? = _ := at_field e2
 have h3 : cs.size = 3 := hsz.trans (by kernel_rfl)
 refine ⟨note, D, dc, deps, A, ac, ops, ?_, hD, hO, hnote⟩
 obtain ⟨L⟩ := cs
 match L, h3 with
 | [c0, c1, c2], _ =>
  simp only [List.getElem?_cons_zero, List.getElem?_cons_succ, Option.some.injEq] at f0 f1 f2
  subst f0 f1 f2
  rfl
theorem trod_ifaceCell {H : Type} {enc : TypeId × Value -> H} {P : Program} {w : World} {base : Nat} {sp : Nat -> Bool} {held : Bool} {fuel : Nat} {t : TypeId} {ms : Array (String × TypeId)} {cs : List Value} {y : DataW H × List MemPlace}
 (ht : P.underlying t = some (.interface ms)) (h : DataW.trod enc P w base sp held fuel t cs = some y) : ∃ ev, cs = [ev] /\ (ev = .nilIface \/ ∃ te pe, ev = .iface te pe) := by
 cases fuel with
 | zero => simp [DataW.trod] at h
 | succ fuel =>
  simp only [DataW.trod, ht] at h
  split at h <;> first | (cases h; done) | skip
  all_goals first | exact ⟨_, rfl, .inl rfl⟩ | exact ⟨_, rfl, .inr ⟨_, _, rfl⟩⟩ | (simp_all; done)
theorem err_of {W : World} {n : String} {d : DataW Unit} {r : List (String × DataW Unit)} {g : Nat} {ms : Array (String × TypeId)} (h : laidMet Tryz.prog ((n, d) :: r) W) (hg : Tryz.prog.globalNamed n = some g) (ht : (Tryz.prog.globals[g]?).map (·.type) = some 29) (hu : Tryz.prog.underlying 29 = some (.interface ms)) :
 ∃ ev, W.cell? ⟨g, 0, none⟩ = some ev /\ (ev = .nilIface \/ ∃ te pe, ev = .iface te pe) := by
 obtain ⟨ps, ⟨g', t', cs, fuel, p, q, hg', ht', hvar, hd, _, _⟩, _⟩ := h
 obtain rfl := Option.some.inj (hg.symm.trans hg')
 obtain rfl := Option.some.inj (ht.symm.trans ht')
 obtain ⟨ev, e, hev⟩ := trod_ifaceCell hu hd
 refine ⟨ev, ?_, hev⟩
 have := World.var?_cell hg hvar 0
 rw [this, <- Array.getElem?_toList, e]
 rfl
theorem lw5_of {W : World} (h : laidMet Tryz.prog Rows.patchCommutesRow.laid W) : Lw5 W := by
 have h0 := h.tail.tail
 have ht : Tab W := Lib.tabIs_of_head (g := 2) gtab (by kernel_rfl) Tryz.underlying251 Tryz.underlying137 (by kernel_rfl) (by kernel_rfl) h0
 have h1 := h0.tail.tail
 have eR := err_of h1 (g := 4) (by kernel_rfl) (by kernel_rfl) Tryz.underlying29
 have eS := err_of h1.tail (g := 3) (by kernel_rfl) (by kernel_rfl) Tryz.underlying29
 refine ⟨⟨eS, eR⟩, ht, ?_⟩
 have hc := Lib.TabIs.cell ht gtab 0 (by decide)
 exact World.block_lt_of_cell? _ _ hc
theorem lw5_handle {W : World} {l : List (String × DataW Unit)} (hl : (l.filter fun x => x.2.handleName?.isNone) = Rows.patchCommutesRow.laid) (h : laidMetH Tryz.prog l W) : Lw5 W := by
 refine lw5_of ?_
 rw [<- hl]
 unfold laidMetH at h
 generalize hfl : (l.filter fun x => x.2.handleName?.isSome) = fl at h
 cases fl with
 | nil =>
  rw [List.filter_eq_self.2 fun x hx => ?_]
  . exact h
  . have := List.filter_eq_nil_iff.1 hfl x hx
    simpa using this
 | cons a r => exact h.1
end Go.Proofs.YtbiioaggilaebaaGreatDoor.Pa
namespace Go.Proofs.YtbiioaggilaebaaGreatDoor.Pa
open Go Go.RowKit YtbiioaggilaebaaGreatDoorW.PrintWords B Tm Wi
open Err (ErrT Code_nil Code_errno)
theorem ops_nil0 (w : World) : OpsAt w none 0 [] := ⟨Nat.le_refl _, Nat.zero_le _, fun h => absurd h (by simp)⟩
theorem inverse05_err (er : Int) (note : ByteArray) (D : Option Addr) (dc : Nat) (deps : List ByteArray) (A : Option Addr) (ac : Nat) (ops : List Op) (w : World) (hI : ∀ W, Below w.heap.size w W -> Calls Tryz.prog 10 #[.agg #[.string note, .slice D deps.length dc, .slice A ops.length ac]] W fun e w' => e = .returned (.tuple #[.agg #[.string ⟨#[]⟩, .slice none 0 0, .slice none 0 0], .iface 54 (.int .i64 er)]) /\ Below W.heap.size W w') (hJ : ∀ W, Below w.heap.size w W -> Calls Tryz.prog 27 #[.agg #[.string note, .slice D deps.length dc, .slice A ops.length ac]] W fun e w' => e = .returned (.tuple #[.agg #[.string ⟨#[]⟩, .slice none 0 0, .slice none 0 0], .int .i64 er]) /\ Below W.heap.size W w') (hL : Lw5 w) (hE : ErrT w) (hD : TxAt w D dc deps) (hO : OpsAt w A ac ops) :
 Calls Tryz.prog 7 #[.agg #[.string note, .slice D deps.length dc, .slice A ops.length ac]] w fun e w' => e = .returned (.bool true) /\ Below w.heap.size w w' := by
 obtain ⟨g, hg⟩ : ∃ g, g = w.heap.size := ⟨_, rfl⟩
 obtain ⟨w1, hw1⟩ : ∃ w1, w1 = w.alloc (.cells #[.string note, .slice D deps.length dc, .slice A ops.length ac] 25) := ⟨_, rfl⟩
 have hb1 := lh (show Below w.heap.size w w1 by rw [hw1]; exact Wi.below_alloc _ _)
 have hp1 := lh (show PatAt w1 g note D deps.length dc A ops.length ac by unfold PatAt; rw [hw1, hg]; exact heap_alloc_at _ _)
 have C0 := lh (awake05_c w1 (hL.below hb1.out))
 have CS := lh (fun (W : World) (h : Below w.heap.size w W) => small_c note D dc deps A ac ops W (hD.below h) (hO.below h))
 have CI := lh hI
 have CJ := lh hJ
 have CC := lh (fun (W : World) (h : Below w.heap.size w W) => Code_errno er W (hE.below h))
 have CE := lh (fun (W : World) => psame5_c ⟨#[]⟩ none 0 [] none 0 [] none 0 none 0 W (tx_nil W none 0) (ops_nil0 W) (tx_nil W none 0) (ops_nil0 W))
 obtain ⟨sp, hsp⟩ : ∃ sp, sp = small deps ops := ⟨_, rfl⟩
 obtain ⟨nd, hnd⟩ : ∃ nd, nd = deps.length := ⟨_, rfl⟩
 obtain ⟨no, hno⟩ : ∃ no, no = ops.length := ⟨_, rfl⟩
 simp only [<- hsp, <- hnd, <- hno] at CS CI CJ hw1 hp1 ⊢
 simp only [List.length_nil] at CE
 clear hsp hnd hno hL hE hD hO hI hJ
 obtain ⟨p0, p1, p2, _, _⟩ := blk3' hp1.out
 go_enter Tryz.func7, Tryz.ntmps7
 go_upto_region 1 with fail
 rw [<- hw1, <- hg]
 replace hw1 := lh hw1
 replace hg := lh hg
 go_wp2_with fail
 refine (C0.out).mono ?_
 rintro ev w2 ⟨rfl, hb2⟩
 have y2 := lh (hb1.out.trans (hb2.mono hb1.out.size))
 have hp2 := lh ((hb2.block _ (heap_lt hp1.out)).trans hp1.out)
 clear hb2 p0 p1 p2 C0
 obtain ⟨p0, p1, p2, _, _⟩ := blk3' hp2.out
 go_wp2_with fail
 refine (CS.out w2 y2.out).mono ?_
 rintro ev w3 ⟨rfl, hb3⟩
 have y3 := lh (y2.out.trans (hb3.mono y2.out.size))
 have hp3 := lh ((hb3.block _ (heap_lt hp2.out)).trans hp2.out)
 clear hb3 p0 p1 p2
 cases sp with
 | false =>
  go_wp2_with fail
  go_ret
  exact ⟨rfl, y3.out⟩
 | true =>
  obtain ⟨p0, p1, p2, _, _⟩ := blk3' hp3.out
  go_wp2_with fail
  refine (CI.out w3 y3.out).mono ?_
  rintro ev w4 ⟨rfl, hb4⟩
  have y4 := lh (y3.out.trans (hb4.mono y3.out.size))
  have hp4 := lh ((hb4.block _ (heap_lt hp3.out)).trans hp3.out)
  clear hb4 p0 p1 p2
  obtain ⟨q, hq⟩ : ∃ q, q = w4.heap.size := ⟨_, rfl⟩
  obtain ⟨w5, hw5⟩ : ∃ w5, w5 = w4.alloc (.cells #[.string ⟨#[]⟩, .slice none 0 0, .slice none 0 0] 25) := ⟨_, rfl⟩
  have hq5 := lh (show w5.heap[q]? = some (.cells #[.string ⟨#[]⟩, .slice none 0 0, .slice none 0 0] 25 (0, 0)) by rw [hw5, hq]; exact heap_alloc_at _ _)
  have hb5 := lh (show Below w4.heap.size w4 w5 by rw [hw5]; exact Wi.below_alloc _ _)
  have y5 := lh (y4.out.trans (hb5.out.mono y4.out.size))
  have hp5 := lh ((hb5.out.block _ (heap_lt hp4.out)).trans hp4.out)
  obtain ⟨p0, p1, p2, _, _⟩ := blk3' hp5.out
  go_upto_region 6 with fail
  rw [<- hw5, <- hq]
  replace hw5 := lh hw5
  replace hq := lh hq
  go_wp2_with fail
  refine (CJ.out w5 y5.out).mono ?_
  rintro ev w6 ⟨rfl, hb6⟩
  have y6 := lh (y5.out.trans (hb6.mono y5.out.size))
  have hq6 := lh ((hb6.block _ (heap_lt hq5.out)).trans hq5.out)
  clear hb6 p0 p1 p2
  obtain ⟨r, hr⟩ : ∃ r, r = w6.heap.size := ⟨_, rfl⟩
  obtain ⟨w7, hw7⟩ : ∃ w7, w7 = w6.alloc (.cells #[.string ⟨#[]⟩, .slice none 0 0, .slice none 0 0] 25) := ⟨_, rfl⟩
  have hr7 := lh (show w7.heap[r]? = some (.cells #[.string ⟨#[]⟩, .slice none 0 0, .slice none 0 0] 25 (0, 0)) by rw [hw7, hr]; exact heap_alloc_at _ _)
  have hb7 := lh (show Below w6.heap.size w6 w7 by rw [hw7]; exact Wi.below_alloc _ _)
  have y7 := lh (y6.out.trans (hb7.out.mono y6.out.size))
  have hq7 := lh ((hb7.out.block _ (heap_lt hq6.out)).trans hq6.out)
  obtain ⟨q0, q1, q2, _, _⟩ := blk3' hq7.out
  obtain ⟨r0, r1, r2, _, _⟩ := blk3' hr7.out
  go_upto_region 7 with fail
  rw [<- hw7, <- hr]
  replace hw7 := lh hw7
  replace hr := lh hr
  go_wp2_with fail
  refine (CE.out w7).mono ?_
  rintro ev w8 ⟨rfl, hb8⟩
  have y8 := lh (y7.out.trans (hb8.mono y7.out.size))
  clear hb8 q0 q1 q2 r0 r1 r2
  go_wp2_with fail
  refine (CC.out w8 y8.out).mono ?_
  rintro ev w9 ⟨rfl, hb9⟩
  have y9 := lh (y8.out.trans (hb9.mono y8.out.size))
  clear hb9
  go_wp2_with fail
  go_ret
  exact ⟨rfl, y9.out⟩
theorem inverse05_bad (note : ByteArray) (D : Option Addr) (dc : Nat) (deps : List ByteArray) (A : Option Addr) (ac : Nat) (ops : List Op) (w : World) (hpr : pright note deps ops = false) (hL : Lw5 w) (hE : ErrT w) (hD : TxAt w D dc deps) (hO : OpsAt w A ac ops) :
 Calls Tryz.prog 7 #[.agg #[.string note, .slice D deps.length dc, .slice A ops.length ac]] w fun e w' => e = .returned (.bool true) /\ Below w.heap.size w w' :=
 inverse05_err 10 note D dc deps A ac ops w (fun W h => inverse_bad note D dc deps A ac ops W hpr (hD.below h) (hO.below h) (hL.below h).2.1 (hL.below h).2.2) (fun W h => rinverse_bad note D dc deps A ac ops W hpr (hD.below h) (hO.below h)) hL hE hD hO
theorem inverse05_big (note : ByteArray) (D : Option Addr) (dc : Nat) (deps : List ByteArray) (A : Option Addr) (ac : Nat) (ops : List Op) (w : World) (hpr : pright note deps ops = true) (hin : pright undoB (ideps (pname note deps ops) deps ops) (iops (pname note deps ops) deps ops) = false) (hL : Lw5 w) (hE : ErrT w) (hD : TxAt w D dc deps) (hO : OpsAt w A ac ops) :
 Calls Tryz.prog 7 #[.agg #[.string note, .slice D deps.length dc, .slice A ops.length ac]] w fun e w' => e = .returned (.bool true) /\ Below w.heap.size w w' := by
 refine inverse05_err 2 note D dc deps A ac ops w (fun W h => (inverse_c note D dc deps A ac ops W hpr (hD.below h) (hO.below h) (hL.below h).2.1 (hL.below h).2.2).mono ?_) (fun W h => (rinverse_c note D dc deps A ac ops W hpr (hD.below h) (hO.below h)).mono ?_) hL hE hD hO
 . rintro e w' ⟨hb, h | h⟩
   . rw [hin] at h
     exact absurd h.1 (by simp)
   . exact ⟨h.2, hb⟩
 . rintro e w' ⟨hb, h | h⟩
   . rw [hin] at h
     exact absurd h.1 (by simp)
   . exact ⟨h.2, hb⟩
end Go.Proofs.YtbiioaggilaebaaGreatDoor.Pa
namespace Go.Proofs.YtbiioaggilaebaaGreatDoor.Pa
open Go Go.RowKit YtbiioaggilaebaaGreatDoorW.PrintWords B Tm Wi
open Err (ErrT Code_nil Code_errno)
theorem inverse05_ok (note : ByteArray) (D : Option Addr) (dc : Nat) (deps : List ByteArray) (A : Option Addr) (ac : Nat) (ops : List Op) (w : World) (hpr : pright note deps ops = true) (hin : pright undoB (ideps (pname note deps ops) deps ops) (iops (pname note deps ops) deps ops) = true) (hL : Lw5 w) (hE : ErrT w) (hD : TxAt w D dc deps) (hO : OpsAt w A ac ops) :
 Calls Tryz.prog 7 #[.agg #[.string note, .slice D deps.length dc, .slice A ops.length ac]] w fun e w' => e = .returned (.bool true) /\ Below w.heap.size w w' := by
 obtain ⟨g, hg⟩ : ∃ g, g = w.heap.size := ⟨_, rfl⟩
 obtain ⟨w1, hw1⟩ : ∃ w1, w1 = w.alloc (.cells #[.string note, .slice D deps.length dc, .slice A ops.length ac] 25) := ⟨_, rfl⟩
 have hb1 := lh (show Below w.heap.size w w1 by rw [hw1]; exact Wi.below_alloc _ _)
 have hp1 := lh (show PatAt w1 g note D deps.length dc A ops.length ac by unfold PatAt; rw [hw1, hg]; exact heap_alloc_at _ _)
 have C0 := lh (awake05_c w1 (hL.below hb1.out))
 have CS := lh (fun (W : World) (h : Below w.heap.size w W) => small_c note D dc deps A ac ops W (hD.below h) (hO.below h))
 have hk5 := fun o ho => (pfits_op (pright_fits hpr) o ho).1
 obtain ⟨nm, hnm⟩ : ∃ nm, nm = pname note deps ops := ⟨_, rfl⟩
 have z1 := iops_made nm deps ops hk5
 have z2 := lh (ideps_name nm deps ops hk5)
 have z3 := inv_com note deps ops undoB hk5
 rw [<- hnm] at z3
 have CI := lh (fun (W : World) (h : Below w.heap.size w W) => inverse_c note D dc deps A ac ops W hpr (hD.below h) (hO.below h) (hL.below h).2.1 (hL.below h).2.2)
 have CJ := lh (fun (W : World) (h : Below w.heap.size w W) => rinverse_c note D dc deps A ac ops W hpr (hD.below h) (hO.below h))
 have CN := lh (fun (W : World) (h : Below w.heap.size w W) => pname_c note D dc deps A ac ops W (hD.below h) (hO.below h) (hL.below h).2.1 (hL.below h).2.2)
 unfold nmOf at CN
 rw [hpr, <- hnm] at CN
 simp only [if_true] at CN
 rw [<- hnm] at CI CJ hin
 obtain ⟨qd, hqd⟩ : ∃ qd, qd = ideps nm deps ops := ⟨_, rfl⟩
 obtain ⟨qo, hqo⟩ : ∃ qo, qo = iops nm deps ops := ⟨_, rfl⟩
 unfold InvAns at CI
 unfold RInvAns at CJ
 rw [<- hqd, <- hqo] at CI CJ hin z3
 rw [<- hqo] at z1
 rw [<- hqd] at z2
 simp only [hin] at CI CJ
 have CG := lh (fun (W : World) E ec B bc (h : Below w.heap.size w W) (k1 : TxAt W E ec qd) (k2 : OpsAt W B bc qo) => pright_c undoB E ec qd B bc qo W k1 k2 (hL.below h).2.1 (hL.below h).2.2)
 rw [hin] at CG
 have hwm := wmade_eq qo 0 (by omega)
 rw [z1] at hwm
 have CP := lh (fun (W : World) E ec B bc (k1 : TxAt W E ec qd) (k2 : OpsAt W B bc qo) => pmade_c undoB E ec qd B bc qo W k1 k2)
 have CL := lh (fun (W : World) E ec (k1 : TxAt W E ec qd) => place_c E ec qd nm W k1)
 have CM := lh (fun (W : World) E ec B bc (h : Below w.heap.size w W) (k1 : TxAt W E ec qd) (k2 : OpsAt W B bc qo) => commute_c note D dc deps A ac ops undoB E ec qd B bc qo W (hD.below h) (hO.below h) k1 k2 (hL.below h).2.1 (hL.below h).2.2)
 rw [z3] at CM
 rw [show wmade 0 qo = 0 from hwm] at CP
 have CE := lh (fun (W : World) E ec B bc E' ec' B' bc' (k1 : TxAt W E ec qd) (k2 : OpsAt W B bc qo) (k3 : TxAt W E' ec' qd) (k4 : OpsAt W B' bc' qo) => psame5_c undoB E ec qd B bc qo E' ec' B' bc' W k1 k2 k3 k4)
 obtain ⟨pl, hpl⟩ : ∃ pl, pl = place qd nm := ⟨_, rfl⟩
 rw [<- hpl] at CL z2
 have z2' := z2.out
 obtain ⟨sp, hsp⟩ : ∃ sp, sp = small deps ops := ⟨_, rfl⟩
 obtain ⟨nd, hnd⟩ : ∃ nd, nd = deps.length := ⟨_, rfl⟩
 obtain ⟨no, hno⟩ : ∃ no, no = ops.length := ⟨_, rfl⟩
 obtain ⟨nq, hnq⟩ : ∃ nq, nq = qd.length := ⟨_, rfl⟩
 obtain ⟨nb, hnb⟩ : ∃ nb, nb = qo.length := ⟨_, rfl⟩
 simp only [<- hsp, <- hnd, <- hno, <- hnq, <- hnb] at CS CI CJ CN CG CP CL CM CE hw1 hp1 ⊢
 clear hsp hnd hno hnq hnb hpl hL hE hD hO hpr hin hk5 z1 z3 hwm hqd hqo hnm
 obtain ⟨p0, p1, p2, _, _⟩ := blk3' hp1.out
 go_enter Tryz.func7, Tryz.ntmps7
 go_upto_region 1 with fail
 rw [<- hw1, <- hg]
 replace hw1 := lh hw1
 replace hg := lh hg
 go_wp2_with fail
 refine (C0.out).mono ?_
 rintro ev w2 ⟨rfl, hb2⟩
 have y2 := lh (hb1.out.trans (hb2.mono hb1.out.size))
 have hp2 := lh ((hb2.block _ (heap_lt hp1.out)).trans hp1.out)
 clear hb2 p0 p1 p2 C0
 obtain ⟨p0, p1, p2, _, _⟩ := blk3' hp2.out
 go_wp2_with fail
 refine (CS.out w2 y2.out).mono ?_
 rintro ev w3 ⟨rfl, hb3⟩
 have y3 := lh (y2.out.trans (hb3.mono y2.out.size))
 have hp3 := lh ((hb3.block _ (heap_lt hp2.out)).trans hp2.out)
 clear hb3 p0 p1 p2
 cases sp with
 | false =>
  go_wp2_with fail
  go_ret
  exact ⟨rfl, y3.out⟩
 | true =>
  obtain ⟨p0, p1, p2, _, _⟩ := blk3' hp3.out
  go_wp2_with fail
  refine (CI.out w3 y3.out).mono ?_
  rintro ev w4 ⟨hb4, ⟨_, E, ec, B, bc, rfl, hT4, hO4⟩ | ⟨h, _⟩⟩
  case inr => exact absurd h (by simp)
  have y4 := lh (y3.out.trans (hb4.mono y3.out.size))
  have hp4 := lh ((hb4.block _ (heap_lt hp3.out)).trans hp3.out)
  have hT4H := lh hT4
  have hO4H := lh hO4
  clear hb4 p0 p1 p2 hT4 hO4
  obtain ⟨q, hq⟩ : ∃ q, q = w4.heap.size := ⟨_, rfl⟩
  obtain ⟨w5, hw5⟩ : ∃ w5, w5 = w4.alloc (.cells #[.string undoB, .slice E nq ec, .slice B nb bc] 25) := ⟨_, rfl⟩
  have hq5 := lh (show w5.heap[q]? = some (.cells #[.string undoB, .slice E nq ec, .slice B nb bc] 25 (0, 0)) by rw [hw5, hq]; exact heap_alloc_at _ _)
  have hb5 := lh (show Below w4.heap.size w4 w5 by rw [hw5]; exact Wi.below_alloc _ _)
  have y5 := lh (y4.out.trans (hb5.out.mono y4.out.size))
  have hp5 := lh ((hb5.out.block _ (heap_lt hp4.out)).trans hp4.out)
  have hT5 := lh (hT4H.out.below hb5.out)
  have hO5 := lh (hO4H.out.below hb5.out)
  obtain ⟨p0, p1, p2, _, _⟩ := blk3' hp5.out
  go_upto_region 6 with fail
  rw [<- hw5, <- hq]
  replace hw5 := lh hw5
  replace hq := lh hq
  go_wp2_with fail
  refine (CJ.out w5 y5.out).mono ?_
  rintro ev w6 ⟨hb6, ⟨_, E', ec', B', bc', rfl, hT6, hO6⟩ | ⟨h, _⟩⟩
  case inr => exact absurd h (by simp)
  have y6 := lh (y5.out.trans (hb6.mono y5.out.size))
  have hp6 := lh ((hb6.block _ (heap_lt hp5.out)).trans hp5.out)
  have hq6 := lh ((hb6.block _ (heap_lt hq5.out)).trans hq5.out)
  have hT6a := lh (hT5.out.below hb6)
  have hO6a := lh (hO5.out.below hb6)
  have hT6H := lh hT6
  have hO6H := lh hO6
  clear hb6 p0 p1 p2 hT6 hO6
  obtain ⟨r, hr⟩ : ∃ r, r = w6.heap.size := ⟨_, rfl⟩
  obtain ⟨w7, hw7⟩ : ∃ w7, w7 = w6.alloc (.cells #[.string undoB, .slice E' nq ec', .slice B' nb bc'] 25) := ⟨_, rfl⟩
  have hr7 := lh (show w7.heap[r]? = some (.cells #[.string undoB, .slice E' nq ec', .slice B' nb bc'] 25 (0, 0)) by rw [hw7, hr]; exact heap_alloc_at _ _)
  have hb7 := lh (show Below w6.heap.size w6 w7 by rw [hw7]; exact Wi.below_alloc _ _)
  have y7 := lh (y6.out.trans (hb7.out.mono y6.out.size))
  have hp7 := lh ((hb7.out.block _ (heap_lt hp6.out)).trans hp6.out)
  have hq7 := lh ((hb7.out.block _ (heap_lt hq6.out)).trans hq6.out)
  have hT7 := lh (hT6a.out.below hb7.out)
  have hO7 := lh (hO6a.out.below hb7.out)
  obtain ⟨q0, q1, q2, _, _⟩ := blk3' hq7.out
  obtain ⟨r0, r1, r2, _, _⟩ := blk3' hr7.out
  go_upto_region 7 with fail
  rw [<- hw7, <- hr]
  replace hw7 := lh hw7
  replace hr := lh hr
  go_wp2_with fail
  refine (CE.out w7 E ec B bc E' ec' B' bc' hT7.out hO7.out (hT6H.out.below hb7.out) (hO6H.out.below hb7.out)).mono ?_
  rintro ev w8 ⟨rfl, hb8⟩
  have y8 := lh (y7.out.trans (hb8.mono y7.out.size))
  have z8 := lh hb8
  have hp8 := lh ((hb8.block _ (heap_lt hp7.out)).trans hp7.out)
  clear hb8 q0 q1 q2 r0 r1 r2
  obtain ⟨p0, p1, p2, _, _⟩ := blk3' hp8.out
  go_wp2_with fail
  refine (Code_nil w8).mono ?_
  rintro ev w9 ⟨rfl, rfl⟩
  go_wp2_with fail
  refine (CN.out w9 y8.out).mono ?_
  rintro ev w10 ⟨rfl, hb10⟩
  have z10 := lh (z8.out.trans (hb10.mono z8.out.size))
  clear hb10 p0 p1 p2
  obtain ⟨q0, q1, q2, _, _⟩ := blk3' ((z10.out.block _ (heap_lt hq7.out)).trans hq7.out)
  go_wp2_with fail
  refine (CG.out w10 E ec B bc (y7.out.trans (z10.out.mono y7.out.size)) (hT7.out.below z10.out) (hO7.out.below z10.out)).mono ?_
  rintro ev w11 ⟨rfl, hb11⟩
  have z11 := lh (z10.out.trans (hb11.mono z10.out.size))
  clear hb11 q0 q1 q2
  obtain ⟨q0, q1, q2, _, _⟩ := blk3' ((z11.out.block _ (heap_lt hq7.out)).trans hq7.out)
  go_wp2_with fail
  refine (CP.out w11 E ec B bc (hT7.out.below z11.out) (hO7.out.below z11.out)).mono ?_
  rintro ev w12 ⟨rfl, hb12⟩
  have z12 := lh (z11.out.trans (hb12.mono z11.out.size))
  clear hb12 q0 q1 q2
  obtain ⟨q0, q1, q2, _, _⟩ := blk3' ((z12.out.block _ (heap_lt hq7.out)).trans hq7.out)
  go_wp2_with fail
  refine (CL.out w12 E ec (hT7.out.below z12.out)).mono ?_
  rintro ev w13 ⟨rfl, hb13⟩
  have z13 := lh (z12.out.trans (hb13.mono z12.out.size))
  clear hb13 q0 q1 q2
  obtain ⟨q0, q1, q2, _, _⟩ := blk3' ((z13.out.block _ (heap_lt hq7.out)).trans hq7.out)
  obtain ⟨p0, p1, p2, _, _⟩ := blk3' ((z13.out.block _ (heap_lt hp7.out)).trans hp7.out)
  go_wp2_with fail
  refine (CM.out w13 E ec B bc (y7.out.trans (z13.out.mono y7.out.size)) (hT7.out.below z13.out) (hO7.out.below z13.out)).mono ?_
  rintro ev w14 ⟨rfl, hb14⟩
  have z14 := lh (z13.out.trans (hb14.mono z13.out.size))
  clear hb14 q0 q1 q2 p0 p1 p2
  go_wp2_with fail
  go_ret
  exact ⟨rfl, y7.out.trans (z14.out.mono y7.out.size)⟩
end Go.Proofs.YtbiioaggilaebaaGreatDoor.Pa
namespace Go.Proofs.YtbiioaggilaebaaGreatDoor.Pa
open Go Go.RowKit Go.WideShapes Go.ChangeShapes B Tm Wi
theorem inverse05_walk (note : ByteArray) (D : Option Addr) (dc : Nat) (deps : List ByteArray) (A : Option Addr) (ac : Nat) (ops : List Op) (w : World) (hL : Lw5 w) (hE : Err.ErrT w) (hD : TxAt w D dc deps) (hO : OpsAt w A ac ops) :
 Calls Tryz.prog 7 #[.agg #[.string note, .slice D deps.length dc, .slice A ops.length ac]] w fun e w' => e = .returned (.bool true) /\ Below w.heap.size w w' := by
 cases hpr : pright note deps ops with
 | false => exact inverse05_bad note D dc deps A ac ops w hpr hL hE hD hO
 | true =>
  cases hin : pright undoB (ideps (pname note deps ops) deps ops) (iops (pname note deps ops) deps ops) with
  | false => exact inverse05_big note D dc deps A ac ops w hpr hin hL hE hD hO
  | true => exact inverse05_ok note D dc deps A ac ops w hpr hin hL hE hD hO
theorem inverse05_any {H : Type} {enc : TypeId × Value -> H} (v : Value) {d : DataW H} {ps : List MemPlace} (w : World) {base : Nat} (hL : Lw5 w) (hE : Err.ErrT w)
 (hv : Value.okWide Tryz.prog w .any base 25 v) (h : DataW.Trod enc Tryz.prog w 0 (fun _ => true) true 25 v d ps) (hw : ∀ n ∈ d.weights Tryz.prog 25, n <= reachBytes) :
 Calls Tryz.prog 7 #[v] w fun e w' => e = .returned (.bool true) /\ Below w.heap.size w w' := by
 obtain ⟨note, D, dc, deps, A, ac, ops, rfl, hD, hO, _⟩ := patch_open v w hv h hw
 exact inverse05_walk note D dc deps A ac ops w hL hE hD hO
end Go.Proofs.YtbiioaggilaebaaGreatDoor.Pa
