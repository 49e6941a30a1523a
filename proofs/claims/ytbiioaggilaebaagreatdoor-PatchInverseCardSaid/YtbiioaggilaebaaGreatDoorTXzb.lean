/- What LawPatchInverse lean on, part zb of 29: the texts PiD. -/
import Derived.Test.YtbiioaggilaebaaGreatDoorTX0
import Derived.Test.YtbiioaggilaebaaGreatDoorTXv
import Derived.Test.YtbiioaggilaebaaGreatDoorTXy
import Derived.Test.YtbiioaggilaebaaGreatDoorTXza
set_option linter.all false
set_option maxRecDepth 100000
set_option maxHeartbeats 16000000
namespace Go.Proofs.YtbiioaggilaebaaGreatDoor.Pa
open Go Go.RowKit YtbiioaggilaebaaGreatDoorW.PrintWords B Tm Wi
def RInvAns (name : ByteArray) (deps : List ByteArray) (ops : List Op) (w : World) (e : Ending) (w' : World) : Prop :=
 Below w.heap.size w w' /\
 ((pright undoB (ideps name deps ops) (iops name deps ops) = true /\ ∃ E ec B bc, e = .returned (.tuple #[.agg #[.string undoB, .slice E (ideps name deps ops).length ec, .slice B (iops name deps ops).length bc], .int .i64 0]) /\ TxAt w' E ec (ideps name deps ops) /\ OpsAt w' B bc (iops name deps ops)) \/
  (pright undoB (ideps name deps ops) (iops name deps ops) = false /\ e = .returned (.tuple #[.agg #[.string ⟨#[]⟩, .slice none 0 0, .slice none 0 0], .int .i64 2])))
theorem rdepsF_snoc (deps q : List ByteArray) (l : List Op) (o : Op) : rdepsF deps q (l ++ [o]) = (rneed deps o).foldl radd (rdepsF deps q l) := by
 unfold rdepsF
 rw [List.flatMap_append, List.foldl_append]
 simp
theorem radd_len (l : List ByteArray) (s : ByteArray) : (radd l s).length <= l.length + 1 := by
 unfold radd
 split
 . omega
 . rw [insR_eq]
   have : ∀ l : List ByteArray, (insL l s).length = l.length + 1 := by
    intro l
    induction l with
    | nil => rfl
    | cons x l ih =>
     rw [insL]
     split
     . simp
     . simp [ih]
   rw [this]
   omega
theorem fold_len : ∀ (L q : List ByteArray), (L.foldl radd q).length <= q.length + L.length
 | [], q => by simp
 | s :: L, q => by
  rw [List.foldl_cons, List.length_cons]
  have := fold_len L (radd q s)
  have := radd_len q s
  omega
theorem rneed_len (deps : List ByteArray) (o : Op) : (rneed deps o).length <= 2 := by
 unfold rneed
 rw [List.length_append]
 have h1 := dp_len deps o.a
 have h2 := dp_len deps o.b
 split <;> split <;> simp <;> omega
theorem rdepsF_len (deps q : List ByteArray) : ∀ l : List Op, (rdepsF deps q l).length <= q.length + l.length * 2 := by
 intro l
 unfold rdepsF
 refine Nat.le_trans (fold_len _ _) ?_
 have : ∀ l : List Op, (l.flatMap (rneed deps)).length <= l.length * 2 := by
  intro l
  induction l with
  | nil => simp
  | cons o l ih =>
   rw [List.flatMap_cons, List.length_append, List.length_cons]
   have := rneed_len deps o
   omega
 have := this l
 omega
def DepS (q : Nat) (w2 : World) (qd : List ByteArray) (W : World) : Prop :=
 ∃ E ec, QAt W q (.slice E qd.length ec) /\ TxAt W E ec qd /\ (∀ a, E = some a -> 0 < qd.length -> a.block ≠ q /\ q <= a.block + 1) /\ Tch (fun b => b = q) w2 W
theorem depS_add {q : Nat} {w5 W1 W5 : World} {qd : List ByteArray} {s : ByteArray} {E E' : Option Addr} {ec' : Nat} {v : Value} (hq : w5.heap.size <= W1.heap.size) (hqq : q < W1.heap.size) (hQ1 : QAt W1 q v) (hE : ∀ a, E = some a -> 0 < qd.length -> a.block ≠ q /\ q <= a.block + 1) (hT1 : Tch (fun b => b = q) w5 W1)
 (hb : Below W1.heap.size W1 W5) (hT : TxAt W5 E' ec' (radd qd s)) (h : E' = E /\ radd qd s = qd \/ ∀ a, E' = some a -> W1.heap.size <= a.block) : DepS q w5 (radd qd s) (W5.setCell ⟨q, 1, none⟩ (.slice E' (radd qd s).length ec')) := by
 have hQ5 : QAt W5 q v := (hb.block _ hqq).trans hQ1
 have hne : ∀ a, E' = some a -> 0 < (radd qd s).length -> a.block ≠ q /\ q <= a.block + 1 := fun a ha h0 => by
  rcases h with ⟨rfl, e⟩ | h
  . exact hE a ha (by rw [<- e]; exact h0)
  . have := h a ha; omega
 exact ⟨E', ec', heap_set _ _ _ _ _ _ _ hQ5, hT.move fun h0 a ha => heap_set_ne _ _ _ _ (hne a ha h0).1, hne, (hT1.trans (Tch.of_new hb)).setCell ⟨q, 1, none⟩ (fun _ => rfl) _⟩
def QV (q : Nat) (e v : Value) (W : World) : Prop := W.heap[q]? = some (.cells #[.string undoB, e, v] 25 (0, 0))
def InvL (q : Nat) (e : Value) (w7 : World) (L : List Op) (W : World) : Prop := ∃ v, QV q e v W /\ OBag w7.heap.size W v L /\ Tch (fun b => b = q) w7 W
theorem ops_app2 {ops : Array Oper} {rest : List Oper} {o : Oper} {a : Act} {Q : Exit -> Act -> World -> Prop} {base : Nat} {w : World} {v : Value} {L : List Op} {x : Op} {A : Option Addr} {ca : Nat} (hgd : o.guard = none) (s y : Operand) (t : TypeId)
 (ho : o.op = .call { callee := .builtin .append, args := #[s, y], argTypes := #[t, t] }) (ht : Tryz.prog.underlying t = some (.slice 38))
 (hs : a.eval s = v) (n c : Nat) (hx : a.eval y = .slice (some ⟨w.heap.size, 0, none⟩) 1 c) (hbag : OBag base w v L)
 (hT : TxAt w A ca x.ls) (hA : 0 < x.ls.length -> ∀ ad, A = some ad -> base <= ad.block /\ ad.block < w.heap.size /\ some ad.block ≠ v.ownBlock) (hn : L.length = n) (hb : n <= 1000000) (hbase : base <= w.heap.size)
 (h : ∀ g cap w', OBag base w' (.slice (some ⟨g, 0, none⟩) (n + 1) cap) (L ++ [x]) -> Grew v w w' -> (v.ownBlock = some g \/ w.heap.size <= g) -> wpList Tryz.prog ops Q rest (a.put o.dst (.slice (some ⟨g, 0, none⟩) (n + 1) cap)) w') :
 wpList Tryz.prog ops Q (o :: rest) a (w.alloc (.cells (opCells x A ca) 38)) := by
 subst hn
 obtain ⟨iF, hiF, hzF, hsF, hbF⟩ := infoO
 have hbag' := hbag
 obtain ⟨cs, hown, hFC⟩ := hbag
 have hOx : OC (fun b => base <= b /\ b < w.heap.size /\ some b ≠ v.ownBlock) w [x] (opCells x A ca).toList := ⟨A, ca, [], by rw [List.append_nil], hT, hA, rfl⟩
 refine wpList_append_lies _ hgd s y t ho base 38 iF _ 6 64 ht hiF hzF hsF hbF rfl (by omega) v L.length cs hs (hown.alloc _) ⟨w.heap.size, 0, none⟩ 1 c (opCells x A ca).toList hx rfl (World.news_of_block (heap_alloc_at w _)) (OC.one hOx) (by omega) (by unfold maxLen; omega) (by omega) (by simp; omega) (w.heap.size + 1) (by simp) ?_
 intro g cap w' hown' hgrow hat hlt
 have hsz := hgrow.size
 rw [size_alloc] at hsz
 have hgr : w.grownBy w' v.ownBlock := ⟨hgrow.os, hgrow.tape, hgrow.output, by omega, fun k h1 h2 => (hgrow.block k (by rw [size_alloc]; omega) h2).trans (heap_alloc_lt w _ _ h1)⟩
 refine h g cap w' ⟨cs ++ (opCells x A ca).toList, by rw [List.length_append]; exact hown', ?_⟩ ⟨hgr.size, hgr.os, hgr.tape, hgr.output, hgr.block⟩ (hat.imp id (fun e => by omega))
 refine OC.move (fun b hb => ⟨⟨hb.1, Nat.lt_of_lt_of_le hb.2.1 hgr.size, ?_⟩, hgr.block b hb.2.1 hb.2.2⟩) (OC.append hOx hFC)
 show some b ≠ some g
 intro e
 injection e with e
 subst e
 rcases hat with hv | hv
 . exact hb.2.2 hv.symm
 . have := hb.2.1; omega
def rdels (own m : Int) (r : Nat) : List Op := (List.range r).map fun (i : Nat) => ⟨4, own, m - 1 - (i : Int), 0, 0, []⟩
theorem rdels_succ (own m : Int) (r : Nat) : rdels own m (r + 1) = rdels own m r ++ [⟨4, own, m - 1 - (r : Int), 0, 0, []⟩] := by unfold rdels; rw [List.range_succ, List.map_append]; rfl
theorem rinv_len (deps qd : List ByteArray) (own : Int) : ∀ (l : List Op) (n : Int), (rinv deps qd own n l).length <= made l + l.length
 | [], n => by rw [rinv]; simp
 | o :: l, n => by
  rw [rinv, List.length_append, made_cons, List.length_cons]
  have h1 : (rstep deps qd own n o).length <= mk1 o + 1 := by
   unfold rstep mk1
   split
   . simp
   . split <;> simp
  have := rinv_len deps qd own l (n - mk1 o)
  omega
def OpBox (ob : Nat) (k a m b n : Int) (L : Option Addr) (nl cl : Nat) (W : World) : Prop := W.heap[ob]? = some (.cells #[.int .i64 k, .int .i64 a, .int .i64 m, .int .i64 b, .int .i64 n, .slice L nl cl] 38 (0, 0))
theorem rinverse_c (note : ByteArray) (D : Option Addr) (dc : Nat) (deps : List ByteArray) (A : Option Addr) (ac : Nat) (ops : List Op) (w : World) (hp : pright note deps ops = true) (hD : TxAt w D dc deps) (hO : OpsAt w A ac ops) :
 Calls Tryz.prog 27 #[.agg #[.string note, .slice D deps.length dc, .slice A ops.length ac]] w (RInvAns (pname note deps ops) deps ops w) := by
 have hfit := lh (pright_fits hp)
 have hop5 := lh (fun o ho => pfits_op hfit.out o ho)
 have hrefs := lh (fun o ho => pfits_refs hfit.out o ho)
 have hszs := lh (show note.size <= 100 /\ deps.length <= 64 /\ ops.length <= 400 /\ made ops <= 300 by
  have hfit := hfit.out
  unfold pfits at hfit
  simp only [Bool.and_eq_true, decide_eq_true_eq] at hfit
  exact ⟨hfit.1.1, hfit.1.2.1, hfit.1.2.2, hfit.2.2.2⟩)
 obtain ⟨R, hR⟩ : ∃ R, R = RInvAns (pname note deps ops) deps ops w := ⟨_, rfl⟩
 rw [<- hR]
 replace hR := lh hR
 obtain ⟨P1, hP1⟩ : ∃ P1, P1 = w.heap.size := ⟨_, rfl⟩
 obtain ⟨w1, hw1⟩ : ∃ w1, w1 = w.alloc (.cells #[.string note, .slice D deps.length dc, .slice A ops.length ac] 25) := ⟨_, rfl⟩
 obtain ⟨w2, hw2⟩ : ∃ w2, w2 = w1.alloc (.cells #[.string ⟨#[]⟩, .slice none 0 0, .slice none 0 0] 25) := ⟨_, rfl⟩
 have hs1 : w1.heap.size = P1 + 1 := by rw [hw1, hP1]; simp
 have hb2 := lh (show Below w.heap.size w w2 by rw [hw2, hw1]; exact ((Below.refl _ _).alloc (Nat.le_refl _) _).alloc (by simp) _)
 have hpt2 := lh (show PatAt w2 P1 note D deps.length dc A ops.length ac by unfold PatAt; rw [hw2, heap_alloc_lt _ _ _ (by omega), hw1, hP1]; exact heap_alloc_at _ _)
 have hrs2 := lh (show w2.heap[P1 + 1]? = some (.cells #[.string ⟨#[]⟩, .slice none 0 0, .slice none 0 0] 25 (0, 0)) by rw [hw2, <- hs1]; exact heap_alloc_at _ _)
 obtain ⟨name, hname⟩ : ∃ name, name = pname note deps ops := ⟨_, rfl⟩
 have CN := lh (show Calls Tryz.prog 17 #[.agg #[.string note, .slice D deps.length dc, .slice A ops.length ac]] w2 fun e w' => e = .returned (.tuple #[.string name, .int .i64 0]) /\ Below w2.heap.size w2 w' by
  have := rname5_c note D dc deps A ac ops w2 (hD.below hb2.out) (hO.below hb2.out)
  unfold rnmOf at this
  rw [hp, if_pos rfl, <- hname] at this
  exact this)
 have CMk := lh (fun (W : World) (h : Below w.heap.size w W) => rmade_c note D dc deps A ac ops W (hD.below h) (hO.below h))
 have hmd := lh (show wmade 0 ops = (made ops : Int) by have := wmade_eq ops 0 (by have := hszs.out; omega); rwa [Nat.zero_add] at this)
 have hDH := lh hD
 have hOH := lh hO
 have hpH := lh hp
 have hnsz := lh (show name.size <= 140737488351232 by rw [hname, pname_size]; omega)
 replace hname := lh hname
 clear hp hD hO
 obtain ⟨nd, hnd⟩ : ∃ nd, nd = deps.length := ⟨_, rfl⟩
 obtain ⟨no, hno⟩ : ∃ no, no = ops.length := ⟨_, rfl⟩
 rw [<- hnd, <- hno] at hw1 CN hpt2 CMk ⊢
 replace hnd := lh hnd
 replace hno := lh hno
 obtain ⟨p0, p1, p2, _, _⟩ := blk3' hpt2.out
 go_enter Tryz.func27, Tryz.ntmps27
 go_upto_region 1 with fail
 rw [<- hw1, <- hP1]
 try rw [hs1]
 rw [<- hw2]
 replace hw1 := lh hw1
 replace hw2 := lh hw2
 replace hs1 := lh hs1
 replace hP1 := lh hP1
 go_wp2_with fail
 refine (CN.out).mono ?_
 rintro ev w3 ⟨rfl, hb3⟩
 have hb3w := lh (hb2.out.trans (hb3.mono hb2.out.size))
 have hpt3 := lh (show PatAt w3 P1 note D nd dc A no ac from (hb3.block _ (heap_lt hpt2.out)).trans hpt2.out)
 have hrs3 := lh ((hb3.block _ (heap_lt hrs2.out)).trans hrs2.out)
 obtain ⟨g, hg⟩ : ∃ g, g = w3.heap.size := ⟨_, rfl⟩
 obtain ⟨w4, hw4⟩ : ∃ w4, w4 = w3.alloc (.cells #[.string name] 9) := ⟨_, rfl⟩
 obtain ⟨w5, hw5⟩ : ∃ w5, w5 = w4.alloc (.cells #[.string ⟨#[117, 110, 100, 111]⟩, .slice (some ⟨g, 0, none⟩) 1 1, .slice none 0 0] 25) := ⟨_, rfl⟩
 have hs4 : w4.heap.size = g + 1 := by rw [hw4, hg]; simp
 obtain ⟨q, hq⟩ : ∃ q, q = g + 1 := ⟨_, rfl⟩
 have hb5 := lh (show Below w3.heap.size w3 w5 by rw [hw5, hw4]; exact ((Below.refl _ _).alloc (Nat.le_refl _) _).alloc (by simp) _)
 have hb5w := lh (hb3w.out.trans (hb5.out.mono hb3w.out.size))
 have hpt5 := lh (show PatAt w5 P1 note D nd dc A no ac from (hb5.out.block _ (heap_lt hpt3.out)).trans hpt3.out)
 have hrs5 := lh ((hb5.out.block _ (heap_lt hrs3.out)).trans hrs3.out)
 have hdep5 := lh (show DepS q w5 [name] w5 by
  have hn5 : w5.heap[g]? = some (.cells #[.string name] 9 (0, 0)) := by rw [hw5, heap_alloc_lt _ _ _ (by omega), hw4, hg]; exact heap_alloc_at _ _
  obtain ⟨A', c', e, h1, h2, _⟩ := (strRow_one (Nat.le_refl g) hn5).read
  cases e
  refine ⟨some ⟨g, 0, none⟩, 1, ?_, ⟨h2, h1, by simp, fun x hx => by rw [List.mem_singleton] at hx; subst hx; exact hnsz.out⟩, fun a ha _ => by cases ha; exact ⟨by show g ≠ q; omega, by show q <= g + 1; omega⟩, Tch.refl _ _⟩
  unfold QAt undoB
  rw [hw5, hq, <- hs4]
  exact heap_alloc_at _ _)
 have hq5 := lh (show q < w5.heap.size /\ P1 + 2 < q /\ w.heap.size <= q by
  have h1 : w5.heap.size = g + 2 := by rw [hw5, size_alloc, hs4]
  have h2 := heap_lt hrs3.out
  have h3 := hb3w.out.size
  omega)
 clear hb3 p0 p1 p2 CN
 go_upto_region 5 with fail
 rw [<- hw4, <- hg]
 try rw [hs4]
 rw [<- hw5]
 rw [<- hq]
 replace hw4 := lh hw4
 replace hw5 := lh hw5
 replace hg := lh hg
 replace hs4 := lh hs4
 replace hq := lh hq
 go_upto_region 6 with fail
 have hno4 : no <= 400 := by rw [hno.out]; exact hszs.out.2.2.1
 go_loopg [7] no (fun g' i W => ∃ k : Nat, g' = no - k /\ k <= no /\ i = .int .i64 k /\ DepS q w5 (rdepsF deps [name] (ops.take k)) W)
 case atStart => exact ⟨0, by omega, by omega, rfl, hdep5.out⟩
 case round =>
  obtain ⟨k, hg', hk, rfl, hdep⟩ := hrel
  subst hg'
  obtain ⟨E, ec, hQ, hTE, hEq, hTc⟩ := hdep
  obtain ⟨qd, hqd⟩ : ∃ qd, qd = rdepsF deps [name] (ops.take k) := ⟨_, rfl⟩
  rw [<- hqd] at hQ hTE hEq
  obtain ⟨nq, hnq⟩ : ∃ nq, nq = qd.length := ⟨_, rfl⟩
  rw [<- hnq] at hQ
  have hQH := lh hQ
  have hTEH := lh hTE
  have hEqH := lh hEq
  have hTcH := lh hTc
  have hqdH := lh hqd
  have hnqH := lh hnq
  have hqdl := lh (show qd.length <= 2000 by
   rw [hqd]
   have := rdepsF_len deps [name] (ops.take k)
   rw [List.length_take] at this
   simp only [List.length_singleton] at this
   omega)
  have hptr := lh (show PatAt wr P1 note D nd dc A no ac from (hTc.block P1 (heap_lt hpt5.out) (by have := hq5.out; show ¬ P1 = q; omega)).trans hpt5.out)
  have hbr := lh (show Below w.heap.size w wr from hb5w.out.trans (hTc.below hb5w.out.size (fun b hb _ => by have h := hq5.out.2.2; rw [hb] at *; omega)))
  obtain ⟨p0, p1, p2, _, _⟩ := blk3' hptr.out
  by_cases hkn : k < no
  . have hki : (k : Int) < (no : Int) := by omega
    have hkl : k < ops.length := by rw [<- hno.out]; exact hkn
    obtain ⟨x, hx⟩ : ∃ x, x = ops[k] := ⟨_, rfl⟩
    have hnext := lh (show rdepsF deps [name] (ops.take (k + 1)) = (rneed deps x).foldl radd qd by rw [List.take_succ_eq_append_getElem hkl, rdepsF_snoc, <- hx, hqd])
    obtain ⟨b, of, L, cl, rfl, c0, c1, c2, c3, c4, c5, _⟩ := (hOH.out.below hbr.out).get k x (by rw [List.getElem?_eq_getElem hkl, hx])
    have h5 := hop5.out x (by rw [hx]; exact List.getElem_mem hkl)
    have hab := hrefs.out x (by rw [hx]; exact List.getElem_mem hkl)
    replace hx := lh hx
    obtain ⟨xk, xa, xm, xb, xn, xls⟩ := x
    simp only at c0 c1 c2 c3 c4 c5 hab h5
    have hkb : 1 <= xk /\ xk <= 5 := h5.1
    have habH := lh hab
    obtain ⟨ob, hob⟩ : ∃ ob, ob = wr.heap.size := ⟨_, rfl⟩
    obtain ⟨W1, hW1⟩ : ∃ W1, W1 = wr.alloc (.cells #[.int .i64 xk, .int .i64 xa, .int .i64 xm, .int .i64 xb, .int .i64 xn, .slice L xls.length cl] 38) := ⟨_, rfl⟩
    have hbW1 := lh (show Below wr.heap.size wr W1 by rw [hW1]; exact Wi.below_alloc _ _)
    have hob1 := lh (show W1.heap[ob]? = some (.cells #[.int .i64 xk, .int .i64 xa, .int .i64 xm, .int .i64 xb, .int .i64 xn, .slice L xls.length cl] 38 (0, 0)) by rw [hW1, hob]; exact heap_alloc_at _ _)
    have hpt1 := lh (show PatAt W1 P1 note D nd dc (some ⟨b, of, none⟩) no ac from (hbW1.out.block _ (heap_lt hptr.out)).trans hptr.out)
    have hQ1 := lh (show QAt W1 q (.slice E nq ec) from (hbW1.out.block _ (heap_lt hQH.out)).trans hQH.out)
    have hTE1 := lh (hTEH.out.below hbW1.out)
    have hT1 := lh (show Tch (fun b => b = q) w5 W1 from hTcH.out.trans (Tch.of_new hbW1.out))
    have hbw1 := lh (hbr.out.trans (hbW1.out.mono hbr.out.size))
    have hobq := lh (show ob ≠ q /\ q < W1.heap.size from ⟨by rw [hob]; have := heap_lt hQH.out; omega, heap_lt hQ1.out⟩)
    have hTD1 := lh (hDH.out.below hbw1.out)
    clear hQ hTE hEq hTc hqd hnq hab h5
    obtain ⟨cA, hcA⟩ : ∃ cA, cA = decide (xk ≠ 1 /\ 0 <= xa) := ⟨_, rfl⟩
    obtain ⟨cB, hcB⟩ : ∃ cB, cB = decide ((xk = 2 \/ xk = 3) /\ 0 <= xb) := ⟨_, rfl⟩
    have hcAH := lh hcA
    have hcBH := lh hcB
    clear hcA hcB
    go_upto_region 9 with fail
    rw [<- hW1, <- hob]
    replace hW1 := lh hW1
    replace hob := lh hob
    clear c0 c1 c2 c3 c4 c5 p0 p1 p2
    obtain ⟨c0, c1, c2, c3, c4, c5, _, _⟩ := six_facts hob1.out
    go_cut [46] (fun v W => v = .bool cA /\ W = W1)
    case first =>
     by_cases h1 : xk = 1
     . subst h1
       have hca := lh (show cA = false by rw [hcAH.out]; simp)
       go_wp2_with fail
       go_meet
       case rel => exact ⟨by rw [hca.out], rfl⟩
     . have d1 : (xk == 1) = false := by simpa using h1
       have dn : (xk != 1) = true := by simpa using h1
       by_cases ha : 0 <= xa
       . have hca := lh (show cA = true by rw [hcAH.out]; simp [h1, ha])
         go_wp2_with fail
         go_meet
         case rel => exact ⟨by rw [hca.out], rfl⟩
       . have hca := lh (show cA = false by rw [hcAH.out]; simp [ha])
         have ha' : xa < 0 := by omega
         go_wp2_with fail
         go_meet
         case rel => exact ⟨by rw [hca.out], rfl⟩
    case rest =>
     obtain ⟨rfl, hWc⟩ := hcut
     replace hWc := hWc.symm
     subst hWc
     have hopb := lh (show OpBox ob xk xa xm xb xn L xls.length cl W1 from hob1.out)
     have hszD := lh (show ∀ t : Nat, (deps.getD t ByteArray.empty).size <= 140737488351232 from fun t => by
      by_cases ht : t < deps.length
      . exact hDH.out.2.2.2 _ (getD_mem' deps t _ ht)
      . rw [List.getD_eq_getElem?_getD, List.getElem?_eq_none (by omega)]; show 0 <= _; omega)
     have hw51 := lh (show w5.heap.size <= W1.heap.size from hT1.out.size)
     obtain ⟨qd2, hqd2⟩ : ∃ qd2, qd2 = (if xk = 1 then [] else dp deps xa).foldl radd qd := ⟨_, rfl⟩
     obtain ⟨PA, hPA⟩ : ∃ PA : World -> Prop, PA = fun W => DepS q w5 qd2 W /\ OpBox ob xk xa xm xb xn L xls.length cl W := ⟨_, rfl⟩
     have hPAH := lh hPA
     have hqd2H := lh hqd2
     clear hPA hqd2
     clear c0 c1 c2 c3 c4 c5
     go_upto_if 46 with fail
     go_cut [] (fun W => PA W)
     case first =>
      cases cA with
      | false =>
       have hq2 := lh (show qd2 = qd by
        rw [hqd2H.out]
        have h := hcAH.out
        by_cases h1 : xk = 1
        . rw [if_pos h1]; rfl
        . rw [if_neg h1]
          have : ¬ 0 <= xa := fun ha => by simp [h1, ha] at h
          unfold dp
          rw [if_neg this]
          rfl)
       go_wp2_with fail
       go_meet
       case rel => rw [hPAH.out, hq2.out]; exact ⟨⟨E, ec, by rw [<- hnqH.out]; exact hQ1.out, hTE1.out, hEqH.out, hT1.out⟩, hopb.out⟩
      | true =>
       have hca := of_decide_eq_true hcAH.out.symm
       obtain ⟨ka, rfl⟩ : ∃ ka : Nat, xa = ka := ⟨xa.toNat, by omega⟩
       have hkd : ka < nd := by have := habH.out.1; have := hnd.out; omega
       have hkdi : (ka : Int) < (nd : Int) := by omega
       obtain ⟨d, hd⟩ : ∃ d, d = deps.getD ka ByteArray.empty := ⟨_, rfl⟩
       have hq2 := lh (show qd2 = radd qd d by rw [hqd2H.out, if_neg hca.1]; unfold dp; rw [if_pos hca.2, hd]; rfl)
       obtain ⟨Db, Do, hDe, hcell⟩ := str_cell hTD1.out.1 ka (by rw [<- hnd.out]; exact hkd)
       rw [<- hd] at hcell
       have hds := lh (show d.size <= 140737488351232 by rw [hd]; exact hszD.out ka)
       replace hd := lh hd
       subst hDe
       obtain ⟨p0, p1, p2, _, _⟩ := blk3' hpt1.out
       obtain ⟨q0, q1, q2, _, _⟩ := blk3' hQ1.out
       obtain ⟨c0, c1, c2, c3, c4, c5, _, _⟩ := six_facts hob1.out
       obtain ⟨S, hS⟩ : ∃ S : World -> Prop, S = fun W => Below W1.heap.size W1 W := ⟨_, rfl⟩
       have hSi : ∀ W, S W ↔ Below W1.heap.size W1 W := fun W => by rw [hS]
       have s0 : ∀ X : InS S, X.val.cell? ⟨q, 1, none⟩ = some (.slice E nq ec) := fun X => keepc ((hSi X.val).1 X.mem) q1
       have s1 : ∀ X : InS S, X.val.cell? ⟨P1, 1, none⟩ = some (.slice (some ⟨Db, Do, none⟩) nd dc) := fun X => keepc ((hSi X.val).1 X.mem) p1
       have s2 : ∀ X : InS S, X.val.cell? ⟨ob, 1, none⟩ = some (.int .i64 ka) := fun X => keepc ((hSi X.val).1 X.mem) c1
       have s3 : ∀ X : InS S, X.val.cell? ⟨Db, Do + ka, none⟩ = some (.string d) := fun X => keepc ((hSi X.val).1 X.mem) hcell
       have hSiH := lh hSi
       have hS0 := lh (show S W1.drew from (hSi _).2 (Below.refl _ _).drew)
       have hNe : Nonempty (InS S) := ⟨⟨W1.drew, hS0.out⟩⟩
       clear hS hSi hcell p0 p1 p2 q0 q1 q2 c0 c1 c2 c3 c4 c5
       go_upto_region 10 with fail
       refine wp_region_mix S [0, 1, 2, 3, 4, 5, 6, 7, 8] [.mem [0, 1, 2, 3, 4, 5, 6, 7, 8], .keep 9, .pure [10], .last 11] (by kernel_rfl) (by kernel_rfl) hS0.out ?_
       simp only [pick, List.getD_cons_zero, List.getD_cons_succ, wpMix]
       repeat (go_big_quiet_step (fail))
       refine wpQuiet_nil ?_
       clear s0 s1 s2 s3
       have yd := lh (show Below W1.heap.size W1 W1.drew from (Below.refl _ _).drew)
       have CAd := lh (show Calls Tryz.prog 68 #[.slice E nq ec, .string d] W1.drew (AddPost E ec qd d W1.drew) by rw [hnqH.out]; exact radd_c E ec qd d W1.drew (hTE1.out.below yd.out) (by have := hqdl.out; omega) hds.out)
       go_wp2_with (go_at_call 68; (with_reducible refine (CAd.out).mono ?_); rintro ev W5 ⟨E', ec', rfl, hT5, hE5, hb5'⟩)
       have y5 := lh (yd.out.trans (hb5'.mono yd.out.size))
       have hT5H := lh hT5
       have hE5H := lh hE5
       clear hb5' hT5 hE5
       refine ⟨(hSiH.out _).2 y5.out, ?_⟩
       have hQ5 := lh (show QAt W5 q (.slice E nq ec) from (y5.out.block _ (heap_lt hQ1.out)).trans hQ1.out)
       obtain ⟨e0, e1, e2, esh, efz⟩ := blk3' hQ5.out
       repeat (go_big_quiet_step (fail))
       refine wpQuiet_nil ?_
       go_wp2_with fail
       simp only [stepPost]
       go_wp2_with fail
       go_meet
       case rel =>
        rw [hPAH.out, hq2.out]
        refine ⟨depS_add hw51.out hobq.out.2 hQ1.out hEqH.out hT1.out y5.out hT5H.out ?_, ?_⟩
        . rcases hE5H.out with h | h
          . exact .inl h
          . exact .inr h
        . exact (heap_set_ne _ _ _ _ hobq.out.1).trans ((y5.out.block _ (heap_lt hob1.out)).trans hob1.out)
     case rest =>
      rw [hPAH.out] at hcut
      obtain ⟨W6, hW6⟩ : ∃ W6, W6 = wc := ⟨_, rfl⟩
      subst hW6
      obtain ⟨⟨E2, ec2, hQ6', hTE6', hEq6', hT6'⟩, hob6'⟩ := hcut
      obtain ⟨nq2, hnq2⟩ : ∃ nq2, nq2 = qd2.length := ⟨_, rfl⟩
      rw [<- hnq2] at hQ6'
      have hQ6 := lh hQ6'
      have hTE6 := lh hTE6'
      have hEq6 := lh hEq6'
      have hT6 := lh hT6'
      have hob6 := lh (show W6.heap[ob]? = some (.cells #[.int .i64 xk, .int .i64 xa, .int .i64 xm, .int .i64 xb, .int .i64 xn, .slice L xls.length cl] 38 (0, 0)) from hob6')
      have hnq6 := lh hnq2
      have hqdl6 := lh (show qd2.length <= 2100 by
       rw [hqd2H.out]
       refine Nat.le_trans (fold_len _ _) ?_
       have h1 := dp_len deps xa
       have h2 := hqdl.out
       split
       . simp; omega
       . omega)
      have hpt6 := lh (show PatAt W6 P1 note D nd dc (some ⟨b, of, none⟩) no ac from (hT6'.block P1 (heap_lt hpt5.out) (by have := hq5.out; show ¬ P1 = q; omega)).trans hpt5.out)
      have hbw6 := lh (show Below w.heap.size w W6 from hb5w.out.trans (hT6'.below hb5w.out.size (fun b hb _ => by have h := hq5.out.2.2; rw [hb] at *; omega)))
      have hTD6 := lh (hDH.out.below hbw6.out)
      have hobq6 := lh (show ob ≠ q /\ q < W6.heap.size from ⟨hobq.out.1, heap_lt hQ6'⟩)
      clear hQ6' hTE6' hEq6' hT6' hob6' hnq2
      obtain ⟨c0, c1, c2, c3, c4, c5, _, _⟩ := six_facts hob6.out
      go_upto_region 11 with fail
      go_cut [71] (fun v W => v = .bool cB /\ W = W6)
      case first =>
       by_cases hb0 : 0 <= xb
       . by_cases h2 : xk = 2
         . have d2 : (xk == 2) = true := by simpa using h2
           have hcb := lh (show cB = true by rw [hcBH.out]; simp [h2, hb0])
           clear h2
           go_wp2_with fail
           go_meet
           case rel => exact ⟨by rw [hcb.out], rfl⟩
         . have d2 : (xk == 2) = false := by simpa using h2
           by_cases h3 : xk = 3
           . have d3 : (xk == 3) = true := by simpa using h3
             have hcb := lh (show cB = true by rw [hcBH.out]; simp [h3, hb0])
             clear h2 h3
             go_wp2_with fail
             go_meet
             case rel => exact ⟨by rw [hcb.out], rfl⟩
           . have d3 : (xk == 3) = false := by simpa using h3
             have hcb := lh (show cB = false by rw [hcBH.out]; simp [h2, h3])
             clear h2 h3
             go_wp2_with fail
             go_meet
             case rel => exact ⟨by rw [hcb.out], rfl⟩
       . have hb1 : xb < 0 := by omega
         have hcb := lh (show cB = false by rw [hcBH.out]; simp [hb0])
         by_cases h2 : xk = 2
         . have d2 : (xk == 2) = true := by simpa using h2
           clear h2
           go_wp2_with fail
           go_meet
           case rel => exact ⟨by rw [hcb.out], rfl⟩
         . have d2 : (xk == 2) = false := by simpa using h2
           by_cases h3 : xk = 3
           . have d3 : (xk == 3) = true := by simpa using h3
             clear h2 h3
             go_wp2_with fail
             go_meet
             case rel => exact ⟨by rw [hcb.out], rfl⟩
           . have d3 : (xk == 3) = false := by simpa using h3
             clear h2 h3
             go_wp2_with fail
             go_meet
             case rel => exact ⟨by rw [hcb.out], rfl⟩
      case rest =>
       obtain ⟨rfl, hWc⟩ := hcut
       replace hWc := hWc.symm
       subst hWc
       have hopb6 := lh (show OpBox ob xk xa xm xb xn L xls.length cl W6 from hob6.out)
       have hw56 := lh (show w5.heap.size <= W6.heap.size from hT6.out.size)
       obtain ⟨qd3, hqd3⟩ : ∃ qd3, qd3 = (if xk = 2 \/ xk = 3 then dp deps xb else []).foldl radd qd2 := ⟨_, rfl⟩
       have hqd3H := lh hqd3
       clear hqd3
       clear c0 c1 c2 c3 c4 c5
       have hneed := lh (show (rneed deps ⟨xk, xa, xm, xb, xn, xls⟩).foldl radd qd = qd3 by
        unfold rneed
        rw [List.foldl_append]
        show (if xk = 2 \/ xk = 3 then dp deps xb else []).foldl radd ((if xk = 1 then [] else dp deps xa).foldl radd qd) = qd3
        rw [<- hqd2H.out, <- hqd3H.out])
       go_upto_if 71 with fail
       cases cB with
       | false =>
        have hq2 := lh (show qd3 = qd2 by
         rw [hqd3H.out]
         have h := hcBH.out
         by_cases h1 : xk = 2 \/ xk = 3
         . rw [if_pos h1]
           have : ¬ 0 <= xb := fun ha => by simp [h1, ha] at h
           unfold dp
           rw [if_neg this]
           rfl
         . rw [if_neg h1]; rfl)
        go_wp2_with fail
        go_roundg (no - (k + 1))
        case measure => omega
        case rel => exact ⟨k + 1, rfl, by omega, by go_num, by rw [hnext.out, hneed.out, hq2.out]; exact ⟨E2, ec2, by rw [<- hnq6.out]; exact hQ6.out, hTE6.out, hEq6.out, hT6.out⟩⟩
       | true =>
        have hca := of_decide_eq_true hcBH.out.symm
        obtain ⟨ka, rfl⟩ : ∃ ka : Nat, xb = ka := ⟨xb.toNat, by omega⟩
        have hkd : ka < nd := by have := habH.out.2; have := hnd.out; omega
        have hkdi : (ka : Int) < (nd : Int) := by omega
        obtain ⟨d, hd⟩ : ∃ d, d = deps.getD ka ByteArray.empty := ⟨_, rfl⟩
        have hq2 := lh (show qd3 = radd qd2 d by rw [hqd3H.out, if_pos hca.1]; unfold dp; rw [if_pos hca.2, hd]; rfl)
        obtain ⟨Db, Do, hDe, hcell⟩ := str_cell hTD6.out.1 ka (by rw [<- hnd.out]; exact hkd)
        rw [<- hd] at hcell
        have hds := lh (show d.size <= 140737488351232 by rw [hd]; exact hszD.out ka)
        replace hd := lh hd
        subst hDe
        obtain ⟨p0, p1, p2, _, _⟩ := blk3' hpt6.out
        obtain ⟨q0, q1, q2, _, _⟩ := blk3' hQ6.out
        obtain ⟨c0, c1, c2, c3, c4, c5, _, _⟩ := six_facts hob6.out
        obtain ⟨S, hS⟩ : ∃ S : World -> Prop, S = fun W => Below W6.heap.size W6 W := ⟨_, rfl⟩
        have hSi : ∀ W, S W ↔ Below W6.heap.size W6 W := fun W => by rw [hS]
        have s0 : ∀ X : InS S, X.val.cell? ⟨q, 1, none⟩ = some (.slice E2 nq2 ec2) := fun X => keepc ((hSi X.val).1 X.mem) q1
        have s1 : ∀ X : InS S, X.val.cell? ⟨P1, 1, none⟩ = some (.slice (some ⟨Db, Do, none⟩) nd dc) := fun X => keepc ((hSi X.val).1 X.mem) p1
        have s2 : ∀ X : InS S, X.val.cell? ⟨ob, 3, none⟩ = some (.int .i64 ka) := fun X => keepc ((hSi X.val).1 X.mem) c3
        have s3 : ∀ X : InS S, X.val.cell? ⟨Db, Do + ka, none⟩ = some (.string d) := fun X => keepc ((hSi X.val).1 X.mem) hcell
        have hSiH := lh hSi
        have hS0 := lh (show S W6.drew from (hSi _).2 (Below.refl _ _).drew)
        have hNe : Nonempty (InS S) := ⟨⟨W6.drew, hS0.out⟩⟩
        clear hS hSi hcell p0 p1 p2 q0 q1 q2 c0 c1 c2 c3 c4 c5
        go_upto_region 12 with fail
        refine wp_region_mix S [0, 1, 2, 3, 4, 5, 6, 7, 8] [.mem [0, 1, 2, 3, 4, 5, 6, 7, 8], .keep 9, .pure [10], .last 11] (by kernel_rfl) (by kernel_rfl) hS0.out ?_
        simp only [pick, List.getD_cons_zero, List.getD_cons_succ, wpMix]
        repeat (go_big_quiet_step (fail))
        refine wpQuiet_nil ?_
        clear s0 s1 s2 s3
        have yd := lh (show Below W6.heap.size W6 W6.drew from (Below.refl _ _).drew)
        have CAd := lh (show Calls Tryz.prog 68 #[.slice E2 nq2 ec2, .string d] W6.drew (AddPost E2 ec2 qd2 d W6.drew) by rw [hnq6.out]; exact radd_c E2 ec2 qd2 d W6.drew (hTE6.out.below yd.out) (by have := hqdl6.out; omega) hds.out)
        go_wp2_with (go_at_call 68; (with_reducible refine (CAd.out).mono ?_); rintro ev W5 ⟨E', ec', rfl, hT5, hE5, hb5'⟩)
        have y5 := lh (yd.out.trans (hb5'.mono yd.out.size))
        have hT5H := lh hT5
        have hE5H := lh hE5
        clear hb5' hT5 hE5
        refine ⟨(hSiH.out _).2 y5.out, ?_⟩
        have hQ5 := lh (show QAt W5 q (.slice E2 nq2 ec2) from (y5.out.block _ (heap_lt hQ6.out)).trans hQ6.out)
        obtain ⟨e0, e1, e2, esh, efz⟩ := blk3' hQ5.out
        repeat (go_big_quiet_step (fail))
        refine wpQuiet_nil ?_
        go_wp2_with fail
        simp only [stepPost]
        go_wp2_with fail
        go_roundg (no - (k + 1))
        case measure => omega
        case rel => exact ⟨k + 1, rfl, by omega, by go_num, by rw [hnext.out, hneed.out, hq2.out]; exact depS_add hw56.out hobq6.out.2 hQ6.out hEq6.out hT6.out y5.out hT5H.out hE5H.out⟩
  . have hke : k = no := by omega
    subst hke
    have hki : ¬ (k : Int) < (k : Int) := by omega
    have hqi := lh (show qd = ideps name deps ops by rw [hqdH.out, List.take_of_length_le (by rw [<- hno.out]; exact Nat.le_refl _), ideps_eq name deps ops (fun o ho => (hop5.out o ho).1)])
    obtain ⟨own, hown⟩ : ∃ own, own = place qd name := ⟨_, rfl⟩
    have CPl := lh (show Calls Tryz.prog 28 #[.slice E nq ec, .string name] wr fun e w' => e = .returned (.int .i64 own) /\ Below wr.heap.size wr w' by rw [hnqH.out, hown]; exact place_c E ec qd name wr hTEH.out)
    replace hown := lh hown
    clear hQ hTE hEq hTc hqd hnq
    obtain ⟨q0, q1, q2, _, _⟩ := blk3' hQH.out
    go_wp2_with fail
    refine (CPl.out).mono ?_
    rintro ev w6 ⟨rfl, hb6⟩
    have hQ6 := lh (show QAt w6 q (.slice E nq ec) from (hb6.block _ (heap_lt hQH.out)).trans hQH.out)
    have hT6 := lh (show Tch (fun b => b = q) w5 w6 from hTcH.out.trans (Tch.of_new hb6))
    have hTE6 := lh (hTEH.out.below hb6)
    have hpt6 := lh (show PatAt w6 P1 note D nd dc A k ac from (hb6.block _ (heap_lt hptr.out)).trans hptr.out)
    have hbw6 := lh (hbr.out.trans (hb6.mono hbr.out.size))
    clear hb6 p0 p1 p2 q0 q1 q2 CPl
    obtain ⟨p0, p1, p2, _, _⟩ := blk3' hpt6.out
    obtain ⟨n0, hn0⟩ : ∃ n0 : Int, n0 = wmade 0 ops := ⟨_, rfl⟩
    have CM2 := lh (CMk.out w6 hbw6.out)
    rw [<- hn0] at CM2
    have hn0H := lh (hn0.trans hmd.out)
    clear hn0
    go_wp2_with fail
    refine (CM2.out).mono ?_
    rintro ev w7 ⟨rfl, hb7⟩
    have hQ7 := lh (show QAt w7 q (.slice E nq ec) from (hb7.block _ (heap_lt hQ6.out)).trans hQ6.out)
    have hT7 := lh (show Tch (fun b => b = q) w5 w7 from hT6.out.trans (Tch.of_new hb7))
    have hTE7 := lh (hTE6.out.below hb7)
    have hpt7 := lh (show PatAt w7 P1 note D nd dc A k ac from (hb7.block _ (heap_lt hpt6.out)).trans hpt6.out)
    have hbw7 := lh (hbw6.out.trans (hb7.mono hbw6.out.size))
    have hq7 := lh (heap_lt hQ7.out)
    clear hb7 p0 p1 p2 CM2
    obtain ⟨p0, p1, p2, _, _⟩ := blk3' hpt7.out
    go_upto_region 16 with fail
    clear p0 p1 p2
    go_loopg [10, 11] k (fun g' nn i W => ∃ j : Nat, g' = k - j /\ j <= k /\ i = .int .i64 ((k : Int) - 1 - j) /\ nn = .int .i64 (n0 - made (ops.reverse.take j)) /\ InvL q (.slice E nq ec) w7 (rinv deps qd own n0 (ops.reverse.take j)) W)
    case atStart => exact ⟨0, by omega, by omega, by simp, by rw [List.take_zero, made_nil]; simp, .slice none 0 0, hQ7.out, by rw [List.take_zero, rinv]; exact OBag.nil _ _, Tch.refl _ _⟩
    case round =>
     obtain ⟨j, hg', hj, rfl, rfl, v, hQr, hbag, hTr⟩ := hrel
     subst hg'
     obtain ⟨Lr, hLr⟩ : ∃ Lr, Lr = rinv deps qd own n0 (ops.reverse.take j) := ⟨_, rfl⟩
     rw [<- hLr] at hbag
     have hlen : Lr.length <= 700 := by
      rw [hLr]
      have h1 := rinv_len deps qd own (ops.reverse.take j) n0
      have h2 := made_take ops.reverse j
      have e : made ops.reverse = made ops := by unfold made; rw [List.map_reverse, List.sum_reverse]
      rw [List.length_take] at h1
      have := hszs.out
      omega
     obtain ⟨m, hm⟩ : ∃ m : Int, m = n0 - made (ops.reverse.take j) := ⟨_, rfl⟩
     have hmb : 0 <= m /\ m <= 300 := by
      have h2 := made_take ops.reverse j
      have e : made ops.reverse = made ops := by unfold made; rw [List.map_reverse, List.sum_reverse]
      have := hn0H.out
      have := hszs.out
      omega
     rw [<- hm]
     have hQrH := lh hQr
     have hbagH := lh hbag
     have hTrH := lh hTr
     have hbr7 := lh (show Below w.heap.size w wr from hbw7.out.trans (hTr.below hbw7.out.size (fun b hb _ => by have h := hq5.out.2.2; rw [hb] at *; omega)))
     have hptR := lh (show PatAt wr P1 note D nd dc A k ac from (hTr.block P1 (heap_lt hpt7.out) (by have := hq5.out; show ¬ P1 = q; omega)).trans hpt7.out)
     have hTER := lh (show TxAt wr E ec qd from hTE7.out.move fun h0 a ha => by
      obtain ⟨b', o', e', hcell⟩ := str_cell hTE7.out.1 0 h0
      have e2 := ha
      rw [e'] at e2
      cases e2
      exact hTr.block _ (World.block_lt_of_cell? w7 _ hcell) (hEqH.out _ ha h0).1)
     obtain ⟨p0, p1, p2, _, _⟩ := blk3' hptR.out
     replace hLr := lh hLr
     replace hm := lh hm
     by_cases hjk : j < k
     . obtain ⟨t, ht⟩ : ∃ t : Nat, (t : Int) = (k : Int) - 1 - j := ⟨k - 1 - j, by omega⟩
       rw [<- ht]
       have htk : t < ops.length := by have := hno.out; omega
       have htk' : t < k := by omega
       replace ht := lh ht
       have hti : (t : Int) < (k : Int) := by omega
       obtain ⟨x, hx⟩ : ∃ x, x = ops[t] := ⟨_, rfl⟩
       have hrev : ops.reverse.take (j + 1) = ops.reverse.take j ++ [x] := by
        rw [List.take_succ_eq_append_getElem (by rw [List.length_reverse]; have := hno.out; omega), List.getElem_reverse, hx]
        congr 3
        have := hno.out
        have := ht.out
        omega
       have hnext := lh (show rinv deps qd own n0 (ops.reverse.take (j + 1)) = Lr ++ rstep deps qd own m x by rw [hrev, rinv_snoc, hLr.out, hm.out])
       have hnextm := lh (show n0 - (made (ops.reverse.take (j + 1)) : Int) = m - mk1 x by rw [hrev, made_append, made_cons, made_nil, hm.out]; omega)
       obtain ⟨b, of, L, cl, hAe, c0, c1, c2, c3, c4, c5, _⟩ := (hOH.out.below hbr7.out).get t x (by rw [List.getElem?_eq_getElem htk, hx])
       subst hAe
       have h5 := hop5.out x (by rw [hx]; exact List.getElem_mem htk)
       have hab := hrefs.out x (by rw [hx]; exact List.getElem_mem htk)
       have hmkx : mk1 x <= 300 := by
        have h1 := made_take ops.reverse (j + 1)
        have e : made ops.reverse = made ops := by unfold made; rw [List.map_reverse, List.sum_reverse]
        rw [hrev, made_append, made_cons, made_nil] at h1
        have := hszs.out
        omega
       replace hx := lh hx
       clear hrev
       obtain ⟨xk, xa, xm, xb, xn, xls⟩ := x
       simp only at c0 c1 c2 c3 c4 c5 hab h5
       have hkb : 1 <= xk /\ xk <= 5 := h5.1
       have hlsH := lh h5.2.2.2.2
       have habH := lh hab
       obtain ⟨ob, hob⟩ : ∃ ob, ob = wr.heap.size := ⟨_, rfl⟩
       obtain ⟨W1, hW1⟩ : ∃ W1, W1 = wr.alloc (.cells #[.int .i64 xk, .int .i64 xa, .int .i64 xm, .int .i64 xb, .int .i64 xn, .slice L xls.length cl] 38) := ⟨_, rfl⟩
       have hbW1 := lh (show Below wr.heap.size wr W1 by rw [hW1]; exact Wi.below_alloc _ _)
       have hob1 := lh (show W1.heap[ob]? = some (.cells #[.int .i64 xk, .int .i64 xa, .int .i64 xm, .int .i64 xb, .int .i64 xn, .slice L xls.length cl] 38 (0, 0)) by rw [hW1, hob]; exact heap_alloc_at _ _)
       have hpt1 := lh (show PatAt W1 P1 note D nd dc (some ⟨b, of, none⟩) k ac from (hbW1.out.block _ (heap_lt hptR.out)).trans hptR.out)
       have hQ1 := lh (show QV q (.slice E nq ec) v W1 from (hbW1.out.block _ (heap_lt hQrH.out)).trans hQrH.out)
       have hTE1 := lh (hTER.out.below hbW1.out)
       have hT1 := lh (show Tch (fun b => b = q) w7 W1 from hTrH.out.trans (Tch.of_new hbW1.out))
       have hbw1 := lh (hbr7.out.trans (hbW1.out.mono hbr7.out.size))
       have hTD1 := lh (hDH.out.below hbw1.out)
       have hbag1 := lh (show OBag w7.heap.size W1 v Lr from hbagH.out.below hbW1.out)
       have hvob := lh (show some ob ≠ v.ownBlock from fun e => by have := (hbagH.out.lt ob e.symm).2; omega)
       have hobs := lh (show w7.heap.size <= ob by rw [hob]; exact hTrH.out.size)
       clear hQr hbag hTr hab h5
       go_upto_region 19 with fail
       rw [<- hW1, <- hob]
       replace hW1 := lh hW1
       replace hob := lh hob
       clear c0 c1 c2 c3 c4 c5 p0 p1 p2
       obtain ⟨c0, c1, c2, c3, c4, c5, _, _⟩ := six_facts hob1.out
       by_cases h1 : xk = 1
       . subst h1
         obtain ⟨nl, hnl⟩ : ∃ nl, nl = xls.length := ⟨_, rfl⟩
         have hnl3 : nl <= 300 := by rw [hnl, hlsH.out]; exact hmkx
         rw [<- hnl] at c5
         have hstep := lh (show rstep deps qd own m ⟨1, xa, xm, xb, xn, xls⟩ = rdels own m nl by unfold rstep; rw [if_pos rfl, hnl]; rfl)
         have hmk := lh (show mk1 ⟨1, xa, xm, xb, xn, xls⟩ = nl by unfold mk1; rw [if_pos rfl, hnl])
         have hobB := lh (show OpBox ob 1 xa xm xb xn L nl cl W1 by unfold OpBox; rw [hnl]; exact hob1.out)
         replace hnl := lh hnl
         go_upto_region 23 with fail
         clear c0 c1 c2 c3 c4 c5
         go_loopg [10, 13] nl (fun g' nn i W => ∃ (r : Nat) (v : Value), g' = nl - r /\ r <= nl /\ i = .int .i64 r /\ nn = .int .i64 (m - r) /\ QV q (.slice E nq ec) v W /\ OBag w7.heap.size W v (Lr ++ rdels own m r) /\ Tch (fun b => b = q) w7 W /\ OpBox ob 1 xa xm xb xn L nl cl W /\ some ob ≠ v.ownBlock)
         case atStart => exact ⟨0, v, by omega, by omega, rfl, by simp, hQ1.out, by rw [show rdels own m 0 = [] from rfl, List.append_nil]; exact hbag1.out, hT1.out, hobB.out, hvob.out⟩
         case round =>
          obtain ⟨r, v1, hg', hr, rfl, rfl, hQr, hbr, hTr, hobr, hvr⟩ := hrel
          subst hg'
          obtain ⟨L1, hL1⟩ : ∃ L1, L1 = Lr ++ rdels own m r := ⟨_, rfl⟩
          rw [<- hL1] at hbr
          obtain ⟨l1, hl1⟩ : ∃ l1, l1 = L1.length := ⟨_, rfl⟩
          have hl1b : l1 <= 1000 := by rw [hl1, hL1, List.length_append]; unfold rdels; rw [List.length_map, List.length_range]; omega
          have hQrH := lh hQr
          have hbrH := lh hbr
          have hTr1 := lh hTr
          have hobrH := lh (show OpBox ob 1 xa xm xb xn L nl cl wr from hobr)
          have hvrH := lh hvr
          replace hL1 := lh hL1
          replace hl1 := lh hl1
          clear hQr hbr hTr hobr hvr
          obtain ⟨c0, c1, c2, c3, c4, c5, _, _⟩ := six_facts hobrH.out
          by_cases hrn : r < nl
          . have hri : (r : Int) < (nl : Int) := by omega
            obtain ⟨q0, q1, q2, _, _⟩ := blk3' hQrH.out
            have hT0 := lh (tx_nil wr none 0)
            have hszr := lh (show w7.heap.size <= wr.heap.size from hTr1.out.size)
            have hqv := lh (show some q ≠ v1.ownBlock from fun e => by have := (hbrH.out.lt q e.symm).1; have := hq7.out; omega)
            go_upto_region 26 with fail
            go_wp2_with (at_builtin; refine ops_app2 (x := ⟨4, own, m - r - 1, 0, 0, []⟩) (A := none) (ca := 0) (by rfl) _ _ _ (by rfl) Tryz.underlying23 (by rfl) l1 1 (by rfl) hbrH.out hT0.out (fun h => absurd h (by simp)) hl1.out.symm (by omega) hszr.out ?_; intro g8 cap8 W8 hbag8 hgrew8 hat8; have hQ8 := lh (hgrew8.heap hQrH.out hqv.out); have hob8 := lh (hgrew8.heap hobrH.out hvrH.out); have hbag8H := lh hbag8; have hgrew8H := lh hgrew8; have hat8H := lh hat8; clear hbag8 hgrew8 hat8 q0 q1 q2 c0 c1 c2 c3 c4 c5; obtain ⟨e0, e1, e2, esh, efz⟩ := blk3' hQ8.out; have e2f := efz 2)
            go_roundg (nl - (r + 1))
            case measure => omega
            case rel =>
             refine ⟨r + 1, _, rfl, by omega, by go_num, by rw [show m - (r : Int) - 1 = m - ((r + 1 : Nat) : Int) by omega], heap_set _ _ _ _ _ _ _ hQ8.out, ?_, ?_, ?_, ?_⟩
             . rw [rdels_succ, <- List.append_assoc, <- hL1.out, show m - 1 - (r : Int) = m - r - 1 by omega]
               exact hbag8H.out.keep (fun b h1 h2 => heap_set_ne _ _ _ _ (by show b ≠ q; have := hq7.out; omega)) (by rw [size_set]; exact Nat.le_refl _)
             . exact (hgrew8H.out.tch hTr1.out (fun b hb => (hbrH.out.lt b hb).1)).setCell ⟨q, 2, none⟩ (fun _ => rfl) _
             . exact (heap_set_ne _ _ _ _ (by show ob ≠ q; have := hq7.out; have := hobs.out; omega)).trans hob8.out
             . show some ob ≠ some g8
               intro e
               injection e with e
               subst e
               rcases hat8H.out with h | h
               . exact hvrH.out h.symm
               . have := heap_lt hobrH.out; omega
          . have hre : r = nl := by omega
            subst hre
            have hri : ¬ (r : Int) < (r : Int) := by omega
            go_wp2_with fail
            go_roundg (k - (j + 1))
            case measure => omega
            case rel => exact ⟨j + 1, rfl, by omega, by rw [show (t : Int) - 1 = (k : Int) - 1 - ((j + 1 : Nat) : Int) by have := ht.out; omega], by rw [hnextm.out, hmk.out], v1, hQrH.out, by rw [hnext.out, hstep.out, <- hL1.out]; exact hbrH.out, hTr1.out⟩
       . have d1 : (xk == 1) = false := by simpa using h1
         obtain ⟨c23, hc23⟩ : ∃ c23, c23 = decide (xk = 2 \/ xk = 3) := ⟨_, rfl⟩
         have hc23H := lh hc23
         have hmk := lh (show mk1 ⟨xk, xa, xm, xb, xn, xls⟩ = 0 by unfold mk1; rw [if_neg h1])
         obtain ⟨lr, hlr⟩ : ∃ lr, lr = Lr.length := ⟨_, rfl⟩
         have hlrb : lr <= 700 := by rw [hlr]; exact hlen
         have hzW := lh (show ∀ z, (z < w7.heap.size \/ z = ob) -> z < W1.heap.size from fun z hz => by have := heap_lt hob1.out; have := hobs.out; omega)
         have hzv := lh (show ∀ z, (z < w7.heap.size \/ z = ob) -> some z ≠ v.ownBlock from fun z hz e => by
          rcases hz with h | rfl
          . have := (hbagH.out.lt z e.symm).1; omega
          . exact hvob.out e)
         have hqv := lh (hzv.out q (.inl hq7.out))
         replace hlr := lh hlr
         clear hc23
         go_upto_region 27 with fail
         clear c1 c2 c3 c4 c5
         obtain ⟨e2, he2⟩ : ∃ e2, e2 = decide (xk = 2) := ⟨_, rfl⟩
         replace he2 := lh he2
         go_cut [141] (fun v' W => v' = .bool e2 /\ W = W1)
         case first =>
          by_cases h2 : xk = 2
          . have d2 : (xk == 2) = true := by simpa using h2
            have hee := lh (show e2 = true by rw [he2.out]; simp [h2])
            clear h2
            go_wp2_with fail
            go_meet
            case rel => exact ⟨by rw [hee.out], rfl⟩
          . have d2 : (xk == 2) = false := by simpa using h2
            have hee := lh (show e2 = false by rw [he2.out]; simp [h2])
            clear h2
            go_wp2_with fail
            go_meet
            case rel => exact ⟨by rw [hee.out], rfl⟩
         case rest =>
          obtain ⟨rfl, hWc⟩ := hcut
          replace hWc := hWc.symm
          subst hWc
          clear c0
          go_upto_if 141 with fail
          go_cut [141] (fun v' W => v' = .bool c23 /\ W = W1)
          case first =>
           cases e2 with
           | true =>
            have hee := lh (show c23 = true by rw [hc23H.out]; simp [of_decide_eq_true he2.out.symm])
            go_wp2_with fail
            go_meet
            case rel => exact ⟨by rw [hee.out], rfl⟩
           | false =>
            have h2 := of_decide_eq_false he2.out.symm
            by_cases h3 : xk = 3
            . have d3 : (xk == 3) = true := by simpa using h3
              have hee := lh (show c23 = true by rw [hc23H.out]; simp [h3])
              clear h2 h3
              go_wp2_with fail
              go_meet
              case rel => exact ⟨by rw [hee.out], rfl⟩
            . have d3 : (xk == 3) = false := by simpa using h3
              have hee := lh (show c23 = false by rw [hc23H.out]; simp [h2, h3])
              clear h2 h3
              go_wp2_with fail
              go_meet
              case rel => exact ⟨by rw [hee.out], rfl⟩
          case rest =>
           obtain ⟨rfl, hWc⟩ := hcut
           replace hWc := hWc.symm
           subst hWc
           go_upto_if 141 with fail
           cases c23 with
           | true =>
            have h23 := of_decide_eq_true hc23H.out.symm
            have hstep := lh (show rstep deps qd own m ⟨xk, xa, xm, xb, xn, xls⟩ = [⟨5 - xk, rtn deps qd own xa, xm, rtn deps qd own xb, xn, []⟩] by unfold rstep; rw [if_neg h1, if_pos h23])
            obtain ⟨p0, p1, p2, _, _⟩ := blk3' hpt1.out
            obtain ⟨q0, q1, q2, _, _⟩ := blk3' hQ1.out
            obtain ⟨c0, c1, c2, c3, c4, c5, _, _⟩ := six_facts hob1.out
            obtain ⟨S, hS⟩ : ∃ S : World -> Prop, S = fun W => ∀ z, (z < w7.heap.size \/ z = ob) -> W.heap[z]? = W1.heap[z]? := ⟨_, rfl⟩
            have hSi : ∀ W, S W ↔ ∀ z, (z < w7.heap.size \/ z = ob) -> W.heap[z]? = W1.heap[z]? := fun W => by rw [hS]
            have hP7 := heap_lt hpt7.out
            have s0 : ∀ X : InS S, X.val.cell? ⟨q, 1, none⟩ = some (.slice E nq ec) := fun X => (World.cell?_of_block ((hSi X.val).1 X.mem q (.inl hq7.out))).trans q1
            have s1 : ∀ X : InS S, X.val.cell? ⟨q, 2, none⟩ = some v := fun X => (World.cell?_of_block ((hSi X.val).1 X.mem q (.inl hq7.out))).trans q2
            have s2 : ∀ X : InS S, X.val.cell? ⟨P1, 1, none⟩ = some (.slice D nd dc) := fun X => (World.cell?_of_block ((hSi X.val).1 X.mem P1 (.inl hP7))).trans p1
            have s3 : ∀ X : InS S, X.val.cell? ⟨ob, 0, none⟩ = some (.int .i64 xk) := fun X => (World.cell?_of_block ((hSi X.val).1 X.mem ob (.inr rfl))).trans c0
            have s4 : ∀ X : InS S, X.val.cell? ⟨ob, 1, none⟩ = some (.int .i64 xa) := fun X => (World.cell?_of_block ((hSi X.val).1 X.mem ob (.inr rfl))).trans c1
            have s5 : ∀ X : InS S, X.val.cell? ⟨ob, 2, none⟩ = some (.int .i64 xm) := fun X => (World.cell?_of_block ((hSi X.val).1 X.mem ob (.inr rfl))).trans c2
            have s6 : ∀ X : InS S, X.val.cell? ⟨ob, 3, none⟩ = some (.int .i64 xb) := fun X => (World.cell?_of_block ((hSi X.val).1 X.mem ob (.inr rfl))).trans c3
            have s7 : ∀ X : InS S, X.val.cell? ⟨ob, 4, none⟩ = some (.int .i64 xn) := fun X => (World.cell?_of_block ((hSi X.val).1 X.mem ob (.inr rfl))).trans c4
            have hSiH := lh hSi
            have hS0 := lh (show S W1.drew from (hSi _).2 (fun z _ => rfl))
            have hNe : Nonempty (InS S) := ⟨⟨W1.drew, hS0.out⟩⟩
            clear hS hSi hP7 p0 p1 p2 q0 q1 q2 c0 c1 c2 c3 c4 c5
            go_upto_region 29 with fail
            refine wp_region_mix S [0, 1, 2, 3, 4, 5, 6, 7, 8, 9, 10, 11, 13, 14, 15, 16, 17, 18, 19] [.mem [0, 1, 2, 3, 4, 5, 6, 7, 8, 9, 10, 11, 13, 14, 15, 16, 17, 18, 19], .keep 12, .keep 20, .pure [21], .keep 22, .keep 23, .pure [24], .last 25] (by kernel_rfl) (by kernel_rfl) hS0.out ?_
            simp only [pick, List.getD_cons_zero, List.getD_cons_succ, wpMix]
            repeat (go_big_quiet_step (fail))
            refine wpQuiet_nil ?_
            clear s0 s1 s2 s3 s4 s5 s6 s7
            have yd := lh (show Below W1.heap.size W1 W1.drew from (Below.refl _ _).drew)
            have CT1 := lh (show Calls Tryz.prog 69 #[.agg #[.int .i64 xa, .int .i64 xm], .slice D nd dc, .slice E nq ec, .int .i64 own] W1.drew fun e w' => e = .returned (.agg #[.int .i64 (rtn deps qd own xa), .int .i64 xm]) /\ Below W1.drew.heap.size W1.drew w' by rw [hnd.out, hnqH.out]; exact rturn_c xa xm own D dc deps E ec qd W1.drew (hTD1.out.below yd.out) (hTE1.out.below yd.out) habH.out.1)
            go_wp2_with (go_at_call 69; (with_reducible refine (CT1.out).mono ?_); rintro ev W5 ⟨rfl, hb5'⟩)
            have y5 := lh (yd.out.trans (hb5'.mono yd.out.size))
            clear hb5'
            refine ⟨(hSiH.out _).2 (fun z hz => y5.out.block z (hzW.out z hz)), ?_⟩
            have CT2 := lh (show Calls Tryz.prog 69 #[.agg #[.int .i64 xb, .int .i64 xn], .slice D nd dc, .slice E nq ec, .int .i64 own] W5 fun e w' => e = .returned (.agg #[.int .i64 (rtn deps qd own xb), .int .i64 xn]) /\ Below W5.heap.size W5 w' by rw [hnd.out, hnqH.out]; exact rturn_c xb xn own D dc deps E ec qd W5 (hTD1.out.below y5.out) (hTE1.out.below y5.out) habH.out.2)
            go_wp2_with (go_at_call 69; (with_reducible refine (CT2.out).mono ?_); rintro ev W6 ⟨rfl, hb5'⟩)
            have y6 := lh (y5.out.trans (hb5'.mono y5.out.size))
            clear hb5'
            refine ⟨(hSiH.out _).2 (fun z hz => y6.out.block z (hzW.out z hz)), ?_⟩
            repeat (go_big_quiet_step (fail))
            refine wpQuiet_nil ?_
            go_wp2_with fail
            refine ⟨(hSiH.out _).2 (fun z hz => (heap_alloc_lt _ _ _ (Nat.lt_of_lt_of_le (hzW.out z hz) y6.out.size)).trans (y6.out.block z (hzW.out z hz))), ?_⟩
            have hbag6 := lh (hbag1.out.below y6.out)
            have hT0 := lh (tx_nil W6 none 0)
            have hb7s := lh (show w7.heap.size <= W6.heap.size from Nat.le_trans hT1.out.size y6.out.size)
            go_wp2_with (at_builtin; refine ops_app2 (x := ⟨5 - xk, rtn deps qd own xa, xm, rtn deps qd own xb, xn, []⟩) (A := none) (ca := 0) (by rfl) _ _ _ (by rfl) Tryz.underlying23 (by rfl) lr 1 (by rfl) hbag6.out hT0.out (fun h => absurd h (by simp)) hlr.out.symm (by omega) hb7s.out ?_; intro g8 cap8 W8 hbag8 hgrew8 hat8; have hQ8 := lh (hgrew8.heap ((y6.out.block _ (heap_lt hQ1.out)).trans hQ1.out) hqv.out); have hbag8H := lh hbag8; have hgrew8H := lh hgrew8; clear hbag8 hgrew8 hat8)
            refine ⟨(hSiH.out _).2 (fun z hz => ?_), ?_⟩
            . have hzz := hzW.out z hz
              have hz6 : z < W6.heap.size := Nat.lt_of_lt_of_le hzz y6.out.size
              have h2 : W6.heap[z]? = some W6.heap[z] := Array.getElem?_eq_getElem hz6
              exact ((hgrew8H.out.heap h2 (hzv.out z hz)).trans h2.symm).trans (y6.out.block z hzz)
            obtain ⟨e0, e1, e2, esh, efz⟩ := blk3' hQ8.out
            repeat (go_big_quiet_step (fail))
            refine wpQuiet_nil ?_
            go_wp2_with fail
            simp only [stepPost]
            go_wp2_with fail
            go_roundg (k - (j + 1))
            case measure => omega
            case rel =>
             refine ⟨j + 1, rfl, by omega, by rw [show (t : Int) - 1 = (k : Int) - 1 - ((j + 1 : Nat) : Int) by have := ht.out; omega], by rw [hnextm.out, hmk.out]; simp, _, heap_set _ _ _ _ _ _ _ hQ8.out, ?_, ?_⟩
             . rw [hnext.out, hstep.out]
               exact hbag8H.out.keep (fun b h1 h2 => heap_set_ne _ _ _ _ (by show b ≠ q; have := hq7.out; omega)) (by rw [size_set]; exact Nat.le_refl _)
             . exact (hgrew8H.out.tch (hT1.out.trans (Tch.of_new y6.out)) (fun b hb => (hbagH.out.lt b hb).1)).setCell ⟨q, 2, none⟩ (fun _ => rfl) _
           | false =>
            have h23 := of_decide_eq_false hc23H.out.symm
            have hstep := lh (show rstep deps qd own m ⟨xk, xa, xm, xb, xn, xls⟩ = [⟨9 - xk, rtn deps qd own xa, xm, 0, 0, []⟩] by unfold rstep; rw [if_neg h1, if_neg h23])
            obtain ⟨p0, p1, p2, _, _⟩ := blk3' hpt1.out
            obtain ⟨q0, q1, q2, _, _⟩ := blk3' hQ1.out
            obtain ⟨c0, c1, c2, c3, c4, c5, _, _⟩ := six_facts hob1.out
            obtain ⟨S, hS⟩ : ∃ S : World -> Prop, S = fun W => ∀ z, (z < w7.heap.size \/ z = ob) -> W.heap[z]? = W1.heap[z]? := ⟨_, rfl⟩
            have hSi : ∀ W, S W ↔ ∀ z, (z < w7.heap.size \/ z = ob) -> W.heap[z]? = W1.heap[z]? := fun W => by rw [hS]
            have hP7 := heap_lt hpt7.out
            have s0 : ∀ X : InS S, X.val.cell? ⟨q, 1, none⟩ = some (.slice E nq ec) := fun X => (World.cell?_of_block ((hSi X.val).1 X.mem q (.inl hq7.out))).trans q1
            have s1 : ∀ X : InS S, X.val.cell? ⟨q, 2, none⟩ = some v := fun X => (World.cell?_of_block ((hSi X.val).1 X.mem q (.inl hq7.out))).trans q2
            have s2 : ∀ X : InS S, X.val.cell? ⟨P1, 1, none⟩ = some (.slice D nd dc) := fun X => (World.cell?_of_block ((hSi X.val).1 X.mem P1 (.inl hP7))).trans p1
            have s3 : ∀ X : InS S, X.val.cell? ⟨ob, 0, none⟩ = some (.int .i64 xk) := fun X => (World.cell?_of_block ((hSi X.val).1 X.mem ob (.inr rfl))).trans c0
            have s4 : ∀ X : InS S, X.val.cell? ⟨ob, 1, none⟩ = some (.int .i64 xa) := fun X => (World.cell?_of_block ((hSi X.val).1 X.mem ob (.inr rfl))).trans c1
            have s5 : ∀ X : InS S, X.val.cell? ⟨ob, 2, none⟩ = some (.int .i64 xm) := fun X => (World.cell?_of_block ((hSi X.val).1 X.mem ob (.inr rfl))).trans c2
            have s6 : ∀ X : InS S, X.val.cell? ⟨ob, 3, none⟩ = some (.int .i64 xb) := fun X => (World.cell?_of_block ((hSi X.val).1 X.mem ob (.inr rfl))).trans c3
            have s7 : ∀ X : InS S, X.val.cell? ⟨ob, 4, none⟩ = some (.int .i64 xn) := fun X => (World.cell?_of_block ((hSi X.val).1 X.mem ob (.inr rfl))).trans c4
            have hSiH := lh hSi
            have hS0 := lh (show S W1.drew from (hSi _).2 (fun z _ => rfl))
            have hNe : Nonempty (InS S) := ⟨⟨W1.drew, hS0.out⟩⟩
            clear hS hSi hP7 p0 p1 p2 q0 q1 q2 c0 c1 c2 c3 c4 c5
            go_upto_region 20 with fail
            refine wp_region_mix S [0, 1, 2, 3, 4, 5, 6, 7, 8, 9, 10, 11] [.mem [0, 1, 2, 3, 4, 5, 6, 7, 8, 9, 10, 11], .keep 12, .pure [13], .keep 14, .keep 15, .pure [16], .last 17] (by kernel_rfl) (by kernel_rfl) hS0.out ?_
            simp only [pick, List.getD_cons_zero, List.getD_cons_succ, wpMix]
            repeat (go_big_quiet_step (fail))
            refine wpQuiet_nil ?_
            clear s0 s1 s2 s3 s4 s5 s6 s7
            have yd := lh (show Below W1.heap.size W1 W1.drew from (Below.refl _ _).drew)
            have CT1 := lh (show Calls Tryz.prog 69 #[.agg #[.int .i64 xa, .int .i64 xm], .slice D nd dc, .slice E nq ec, .int .i64 own] W1.drew fun e w' => e = .returned (.agg #[.int .i64 (rtn deps qd own xa), .int .i64 xm]) /\ Below W1.drew.heap.size W1.drew w' by rw [hnd.out, hnqH.out]; exact rturn_c xa xm own D dc deps E ec qd W1.drew (hTD1.out.below yd.out) (hTE1.out.below yd.out) habH.out.1)
            go_wp2_with (go_at_call 69; (with_reducible refine (CT1.out).mono ?_); rintro ev W6 ⟨rfl, hb5'⟩)
            have y6 := lh (yd.out.trans (hb5'.mono yd.out.size))
            clear hb5'
            refine ⟨(hSiH.out _).2 (fun z hz => y6.out.block z (hzW.out z hz)), ?_⟩
            repeat (go_big_quiet_step (fail))
            refine wpQuiet_nil ?_
            go_wp2_with fail
            refine ⟨(hSiH.out _).2 (fun z hz => (heap_alloc_lt _ _ _ (Nat.lt_of_lt_of_le (hzW.out z hz) y6.out.size)).trans (y6.out.block z (hzW.out z hz))), ?_⟩
            have hbag6 := lh (hbag1.out.below y6.out)
            have hT0 := lh (tx_nil W6 none 0)
            have hb7s := lh (show w7.heap.size <= W6.heap.size from Nat.le_trans hT1.out.size y6.out.size)
            go_wp2_with (at_builtin; refine ops_app2 (x := ⟨9 - xk, rtn deps qd own xa, xm, 0, 0, []⟩) (A := none) (ca := 0) (by rfl) _ _ _ (by rfl) Tryz.underlying23 (by rfl) lr 1 (by rfl) hbag6.out hT0.out (fun h => absurd h (by simp)) hlr.out.symm (by omega) hb7s.out ?_; intro g8 cap8 W8 hbag8 hgrew8 hat8; have hQ8 := lh (hgrew8.heap ((y6.out.block _ (heap_lt hQ1.out)).trans hQ1.out) hqv.out); have hbag8H := lh hbag8; have hgrew8H := lh hgrew8; clear hbag8 hgrew8 hat8)
            refine ⟨(hSiH.out _).2 (fun z hz => ?_), ?_⟩
            . have hzz := hzW.out z hz
              have hz6 : z < W6.heap.size := Nat.lt_of_lt_of_le hzz y6.out.size
              have h2 : W6.heap[z]? = some W6.heap[z] := Array.getElem?_eq_getElem hz6
              exact ((hgrew8H.out.heap h2 (hzv.out z hz)).trans h2.symm).trans (y6.out.block z hzz)
            obtain ⟨e0, e1, e2, esh, efz⟩ := blk3' hQ8.out
            repeat (go_big_quiet_step (fail))
            refine wpQuiet_nil ?_
            go_wp2_with fail
            simp only [stepPost]
            go_wp2_with fail
            go_roundg (k - (j + 1))
            case measure => omega
            case rel =>
             refine ⟨j + 1, rfl, by omega, by rw [show (t : Int) - 1 = (k : Int) - 1 - ((j + 1 : Nat) : Int) by have := ht.out; omega], by rw [hnextm.out, hmk.out]; simp, _, heap_set _ _ _ _ _ _ _ hQ8.out, ?_, ?_⟩
             . rw [hnext.out, hstep.out]
               exact hbag8H.out.keep (fun b h1 h2 => heap_set_ne _ _ _ _ (by show b ≠ q; have := hq7.out; omega)) (by rw [size_set]; exact Nat.le_refl _)
             . exact (hgrew8H.out.tch (hT1.out.trans (Tch.of_new y6.out)) (fun b hb => (hbagH.out.lt b hb).1)).setCell ⟨q, 2, none⟩ (fun _ => rfl) _
     . have hje : j = k := by omega
       subst hje
       have hLe := lh (show Lr = iops name deps ops by
        rw [hLr.out, List.take_of_length_le (by rw [List.length_reverse]; have := hno.out; omega), hn0H.out, hown.out, hqi.out]
        exact iops_eq name deps ops (fun o ho => ⟨(hop5.out o ho).1, pfits_45 hfit.out o ho⟩))
       obtain ⟨B, bc, hve, hOps, _⟩ := hbagH.out.ops (by omega)
       subst hve
       have hOpsH := lh hOps
       have hbagE := lh hbagH.out
       obtain ⟨nb, hnb⟩ : ∃ nb, nb = Lr.length := ⟨_, rfl⟩
       have hQ9 := lh (show QV q (.slice E nq ec) (.slice B nb bc) wr by rw [hnb]; exact hQrH.out)
       have hrsR := lh (show wr.heap[P1 + 1]? = some (.cells #[.string ⟨#[]⟩, .slice none 0 0, .slice none 0 0] 25 (0, 0)) from (hTr.block (P1 + 1) (Nat.lt_of_lt_of_le (heap_lt hrs5.out) hT7.out.size) (by have := hq5.out; show ¬ P1 + 1 = q; omega)).trans ((hT7.out.block (P1 + 1) (heap_lt hrs5.out) (by have := hq5.out; show ¬ P1 + 1 = q; omega)).trans hrs5.out))
       obtain ⟨ok, hok⟩ : ∃ ok, ok = pright undoB qd Lr := ⟨_, rfl⟩
       have CR := lh (show Calls Tryz.prog 47 #[.agg #[.string undoB, .slice E nq ec, .slice B nb bc]] wr fun e w' => e = .returned (.bool ok) /\ Below wr.heap.size wr w' by rw [hnqH.out, hnb, hok]; exact rright5_c undoB E ec qd B bc Lr wr hTER.out hOpsH.out)
       replace hok := lh hok
       replace hnb := lh hnb
       clear hQr hbag hTr hOps p0 p1 p2
       obtain ⟨q0, q1, q2, _, _⟩ := blk3' hQ9.out
       have hneg : ¬ (0 : Int) <= (j : Int) - 1 - (j : Int) := by omega
       go_wp2_with fail
       refine (CR.out).mono ?_
       rintro ev w9 ⟨rfl, hb9⟩
       have y9 := lh hb9
       clear hb9 q0 q1 q2 CR
       have hQ10 := lh ((y9.out.block _ (heap_lt hQ9.out)).trans hQ9.out)
       have hr9 := lh ((y9.out.block _ (heap_lt hrsR.out)).trans hrsR.out)
       have yw9 := lh (hbr7.out.trans (y9.out.mono hbr7.out.size))
       have hPw := lh (show w.heap.size <= P1 + 1 by rw [hP1.out]; omega)
       have hREq := lh (show pright undoB (ideps name deps ops) (iops name deps ops) = ok by rw [hok.out, hLe.out, hqi.out])
       have hRnm := lh (show R = RInvAns name deps ops w by rw [hname.out]; exact hR.out)
       obtain ⟨q0, q1, q2, _, _⟩ := blk3' hQ10.out
       obtain ⟨r0, r1, r2, rsh, rfz⟩ := blk3' hr9.out
       cases ok with
       | true =>
        go_wp2_with fail
        (try simp only [Exit.inBlock, Exit.then])
        refine bodyPost_ret (Go.Proofs.YtbiioaggilaebaaGreatDoor.Tm.results_cell_tmp rfl _ _ (P1 + 1) 25 #[.string undoB, .slice E nq ec, .slice B nb bc] (0, 0) _ rfl (set3 hr9.out) Tryz.underlying25 rfl (by kernel_rfl) _ rfl) rfl ?_
        rw [hRnm.out]
        refine ⟨((yw9.out.setCell hPw.out _).setCell hPw.out _).setCell hPw.out _, .inl ⟨hREq.out, E, ec, B, bc, by rw [<- hLe.out, <- hqi.out, <- hnqH.out, <- hnb.out]; rfl, ?_, ?_⟩⟩
        . rw [<- hqi.out]
          exact (hTER.out.below y9.out).move fun h0 a ha => set3_ne (by have := hEqH.out a ha h0; have := hq5.out; omega) _ _ _
        . obtain ⟨A2, c2, e2, h2, _⟩ := (((hbagE.out.below y9.out).keep (w' := (((w9.setCell ⟨P1 + 1, 0, none⟩ (.string undoB)).setCell ⟨P1 + 1, 1, none⟩ (.slice E nq ec)).setCell ⟨P1 + 1, 2, none⟩ (.slice B nb bc))) (fun b h1 _ => set3_ne (by have := heap_lt hrs5.out; have := hT7.out.size; omega) _ _ _) (by rw [size_set, size_set, size_set]; exact Nat.le_refl _)).ops (by omega))
          cases e2
          rw [<- hLe.out]
          exact h2
       | false =>
        go_wp2_with fail
        (try simp only [Exit.inBlock, Exit.then])
        refine bodyPost_ret (Go.Proofs.YtbiioaggilaebaaGreatDoor.Tm.results_cell_tmp rfl _ _ (P1 + 1) 25 #[.string ⟨#[]⟩, .slice none 0 0, .slice none 0 0] (0, 0) _ rfl (set3 hr9.out) Tryz.underlying25 rfl (by kernel_rfl) _ rfl) rfl ?_
        rw [hRnm.out]
        exact ⟨((yw9.out.setCell hPw.out _).setCell hPw.out _).setCell hPw.out _, .inr ⟨hREq.out, rfl⟩⟩
end Go.Proofs.YtbiioaggilaebaaGreatDoor.Pa
