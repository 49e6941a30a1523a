/- What LawPatchInverse lean on, part z of 29: the texts PcG. -/
import Derived.Test.YtbiioaggilaebaaGreatDoorTX0
import Derived.Test.YtbiioaggilaebaaGreatDoorTXq
import Derived.Test.YtbiioaggilaebaaGreatDoorTXx
import Derived.Test.YtbiioaggilaebaaGreatDoorTXy
import Derived.Laws.EntriesVeiled
set_option linter.all false
set_option maxRecDepth 100000
set_option maxHeartbeats 16000000
namespace Go.Proofs.YtbiioaggilaebaaGreatDoor.Pa
open Go Go.RowKit Go.Shelf YtbiioaggilaebaaGreatDoorW.PrintWords B Tm Wi
attribute [local go_sem] Oper.semAt_some
theorem back_c (A : Option Addr) (n c : Nat) (w : World) :
 Calls Tryz.prog 29 #[.slice A n c] w fun e w' => e = .returned (.func (.func 70) #[] #[.pointer (some ⟨w.heap.size, 0, none⟩)]) /\ w' = w.alloc (.cells #[.slice A n c] 23) := by
 have hmf : ∀ (fn : Fn) (first cap : Array Value) (w : World), (Instr.makeFunc fn first cap).run Tryz.prog w = .ok (.func fn first cap) w := fun _ _ _ _ => rfl
 go_enter Tryz.func29, Tryz.ntmps29
 go_wp2_with fail
 go_ret
 exact ⟨rfl, rfl⟩
def InvI (ob cb B0 : Nat) (w0 : World) (n : Int) (L : List Op) (W : World) : Prop :=
 ∃ v, W.heap[ob]? = some (.cells #[v] 23 (0, 0)) /\ ORow B0 W v L /\ W.heap[cb]? = some (.cells #[.int .i64 n] 3 (0, 0)) /\ Tch (fun b => b = ob \/ b = cb) w0 W
def InvE (ob : Nat) (Bx : Nat) (W : World) : Prop := ∃ v, W.heap[ob]? = some (.cells #[v] 23 (0, 0)) /\ v.ownBlock ≠ some Bx
theorem invE_own (ob Bx B : Nat) : OwnFrom B (fun (_ : Unit) W => InvE ob Bx W) := by
 intro _ W W' row ⟨v, h1, h2⟩ hg hr
 refine ⟨v, (hg.block ob (heap_lt h1) (fun e => ?_)).trans h1, h2⟩
 obtain ⟨_, o, ho, hc⟩ := hr ob e.symm
 rw [h1] at ho; cases ho; cases hc
theorem invI_own {α : Type} (ob cb B0 B : Nat) (w0 : World) (n : List α -> Int) (f : List α -> List Op) (hB : w0.heap.size <= B) : OwnFrom B (fun pre W => InvI ob cb B0 w0 (n pre) (f pre) W) := by
 intro pre W W' row ⟨v, h1, h2, h3, h4⟩ hg hr
 have hk : ∀ {b : Nat} {cs : Array Value} {t : TypeId}, W.heap[b]? = some (.cells cs t (0, 0)) -> W'.heap[b]? = W.heap[b]? := fun h => by
  refine hg.block _ (heap_lt h) (fun e => ?_)
  obtain ⟨_, o, ho, hc⟩ := hr _ e.symm
  rw [h] at ho; cases ho; cases hc
 refine ⟨v, (hk h1).trans h1, h2.same (fun b hb => ?_), (hk h3).trans h3, ?_⟩
 . obtain ⟨cur, hcur⟩ := h2.cells b hb
   exact hk hcur
 . exact ⟨hg.os.trans h4.os, hg.tape.trans h4.tape, hg.output.trans h4.output, Nat.le_trans h4.size hg.size, fun k hk hs => (hg.block k (Nat.lt_of_lt_of_le hk h4.size) (fun e => by have := (hr k e.symm).1; omega)).trans (h4.block k hk hs)⟩
theorem inv_next {ob cb B0 : Nat} {w0 W : World} {n0 m : Int} {L : List Op} {o : Op} (hm : m = n0 - made L) (h : InvI ob cb B0 w0 (m - mk1 o) (binv n0 L ++ stepI m o) W) : InvI ob cb B0 w0 (n0 - made (L ++ [o])) (binv n0 (L ++ [o])) W := by
 rw [binv_snoc, <- hm, made_append, made_cons, made_nil, show n0 - ((made L + (mk1 o + 0) : Nat) : Int) = m - mk1 o by omega]
 exact h
theorem keeps_grew {base : Nat} {v : Value} {L : List Op} {W W' : World} (h : ORow base W v L) (hg : Grew v W W') : KeepsOthers W W' :=
 ⟨hg.1, fun k o hk ho => (hg.2.2.2.2 k (heap_lt hk) (fun e => by
  obtain ⟨cur, hc⟩ := h.cells k e.symm
  rw [hk] at hc; cases hc; cases ho)).trans hk⟩
theorem kps_of {ob cb : Nat} {Kb : Nat -> Prop} {w0 W W' : World} (hK : ∀ b, Kb b -> b < w0.heap.size /\ ¬ (b = ob \/ b = cb)) (h : Tch (fun b => b = ob \/ b = cb) w0 W) (h' : Tch (fun b => b = ob \/ b = cb) w0 W') : Kps Kb W W' :=
 fun b hb => (h'.block b (hK b hb).1 (hK b hb).2).trans (h.block b (hK b hb).1 (hK b hb).2).symm
theorem round_end {ob cb B0 : Nat} {w0 W W' : World} {n0 m : Int} {Kb : Nat -> Prop} {α : Type} {f : List α -> List Op} {pre : List α} {x : α} {o : Op} (hK : ∀ b, Kb b -> b < w0.heap.size /\ ¬ (b = ob \/ b = cb)) (hf : f (pre ++ [x]) = f pre ++ [o]) (hm : m = n0 - made (f pre)) (hT : Tch (fun b => b = ob \/ b = cb) w0 W) (hk : KeepsOthers W W')
 (h : InvI ob cb B0 w0 (m - mk1 o) (binv n0 (f pre) ++ stepI m o) W') (a : Act) : ownPostG w0.heap.size (Kps Kb) (fun xs W => InvI ob cb B0 w0 (n0 - made (f xs)) (binv n0 (f xs)) W /\ w0.heap.size <= W.heap.size) (fun _ _ _ => False) (pre ++ [x]) W .normal a W' := by
 have hT' : Tch (fun b => b = ob \/ b = cb) w0 W' := by obtain ⟨_, _, _, _, h⟩ := h; exact h
 exact ⟨hk.from _, kps_of hK hT hT', by show InvI _ _ _ _ _ _ _; rw [hf]; exact inv_next hm h, hT'.size⟩
theorem tch_set {S : Nat -> Prop} {w W : World} (h : Tch S w W) (b i : Nat) (v : Value) (hb : w.heap.size <= b) : Tch S w (W.setCell ⟨b, i, none⟩ v) :=
 ⟨h.os, h.tape, h.output, by rw [size_set]; exact h.size, fun k hk hs => (heap_set_ne _ _ _ _ (by show k ≠ b; omega)).trans (h.block k hk hs)⟩
theorem inv_push {ob cb B0 : Nat} {w0 W W1 : World} {m : Int} {L : List Op} {x : Op} {v v' : Value} (hne : ob ≠ cb) (hob : ob < B0) (hcb : cb < B0) (h0 : w0.heap.size = B0) (hov : W.heap[ob]? = some (.cells #[v] 23 (0, 0))) (hrow : ORow B0 W v L) (hcn : W.heap[cb]? = some (.cells #[.int .i64 m] 3 (0, 0))) (hT : Tch (fun b => b = ob \/ b = cb) w0 W)
 (hr1 : ORow B0 W1 v' (L ++ [x])) (hg : Grew v W W1) : InvI ob cb B0 w0 m (L ++ [x]) (W1.setCell ⟨ob, 0, none⟩ v') := by
 have hvb : ∀ b, b < B0 -> some b ≠ v.ownBlock := fun b hb e => by have := (hrow.lt b e.symm).1; omega
 refine ⟨v', heap_set _ _ _ _ _ _ _ (hg.heap hov (hvb _ hob)), hr1.same (fun b hb => heap_set_ne _ _ _ _ (by have := (hr1.lt b hb).1; show b ≠ ob; omega)), ?_, ?_⟩
 . rw [heap_set_ne _ _ _ _ (fun h => hne h.symm)]
   exact hg.heap hcn (hvb _ hcb)
 . exact (hg.tch hT (fun k hk => by rw [h0]; exact (hrow.lt k hk).1)).setCell ⟨ob, 0, none⟩ (fun _ => .inl rfl) _
def TurnRes (Av : Option Addr) (nb cv : Nat) (l : List Op) (w : World) (e : Ending) (w' : World) : Prop := e = .returned (.tuple #[]) /\ (0 < nb -> ∃ g cur, Av = some ⟨g, 0, none⟩ /\ w'.heap[g]? = some (.cells cur 38 (0, 0)) /\ CurAt cur l) /\ Tch (fun k => ∃ ad, Av = some ad /\ k = ad.block) w w'
theorem ops_of {w : World} {Av : Option Addr} {nb cv : Nat} {l : List Op} (h : 0 < nb -> ∃ g cur, Av = some ⟨g, 0, none⟩ /\ w.heap[g]? = some (.cells cur 38 (0, 0)) /\ CurAt cur l) (hl : l.length = nb) (hc : nb <= cv) (hb : nb <= 140737488351232) : OpsAt w Av cv l := by
 by_cases h0 : 0 < nb
 . obtain ⟨g, cur, rfl, h1, h2⟩ := h h0
   exact curAt_ops h1 h2 (by omega) (by omega)
 . exact ⟨by omega, by omega, fun h => by omega⟩
def fin3 (W : World) (r d : Nat) (x y z : Value) : World := (((W.setCell ⟨r, 0, none⟩ x).setCell ⟨r, 1, none⟩ y).setCell ⟨r, 2, none⟩ z).putObj d (.deferred none)
theorem fin3_ne {W : World} {r d k : Nat} (x y z : Value) (h1 : k ≠ r) (h2 : k ≠ d) : (fin3 W r d x y z).heap[k]? = W.heap[k]? := by
 unfold fin3
 rw [World.putObj_heap_other h2]
 exact set3_ne h1 _ _ _
theorem fin3_at {W : World} {r d : Nat} {x0 y0 z0 : Value} (x y z : Value) (h : W.heap[r]? = some (.cells #[x0, y0, z0] 25 (0, 0))) (h2 : r ≠ d) : (fin3 W r d x y z).heap[r]? = some (.cells #[x, y, z] 25 (0, 0)) := by
 unfold fin3
 rw [World.putObj_heap_other h2]
 exact set3 h
theorem fin3_below {w W : World} {r d : Nat} (x y z : Value) (h : Below w.heap.size w W) (hr : w.heap.size <= r) (hd : w.heap.size <= d) : Below w.heap.size w (fin3 W r d x y z) :=
 (((h.setCell hr x).setCell hr y).setCell hr z).grown (grownBy_putObj' _ _ _) (by rw [size_set, size_set, size_set]; exact h.size) (fun k e => by cases e; exact hd)
def InvAns (name : ByteArray) (deps : List ByteArray) (ops : List Op) (w : World) (e : Ending) (w' : World) : Prop :=
 Below w.heap.size w w' /\
 ((pright undoB (ideps name deps ops) (iops name deps ops) = true /\ ∃ E ec B bc, e = .returned (.tuple #[.agg #[.string undoB, .slice E (ideps name deps ops).length ec, .slice B (iops name deps ops).length bc], .nilIface]) /\ TxAt w' E ec (ideps name deps ops) /\ OpsAt w' B bc (iops name deps ops)) \/
  (pright undoB (ideps name deps ops) (iops name deps ops) = false /\ e = .returned (.tuple #[.agg #[.string ⟨#[]⟩, .slice none 0 0, .slice none 0 0], .iface 54 (.int .i64 2)])))
theorem inverse_c (note : ByteArray) (D : Option Addr) (dc : Nat) (deps : List ByteArray) (A : Option Addr) (ac : Nat) (ops : List Op) (w : World) (hp : pright note deps ops = true) (hD : TxAt w D dc deps) (hO : OpsAt w A ac ops) (htab : Tab w) (hgB : 2 < w.heap.size) :
 Calls Tryz.prog 10 #[.agg #[.string note, .slice D deps.length dc, .slice A ops.length ac]] w (InvAns (pname note deps ops) deps ops w) := by
 obtain ⟨R, hR⟩ : ∃ R, R = InvAns (pname note deps ops) deps ops w := ⟨_, rfl⟩
 rw [<- hR]
 replace hR := lh hR
 have hfit := lh (pright_fits hp)
 have hop5 := lh (fun o ho => pfits_op hfit.out o ho)
 have hszs := lh (show note.size <= 100 /\ deps.length <= 64 /\ ops.length <= 400 /\ made ops <= 300 by
  have hfit := hfit.out
  unfold pfits at hfit
  simp only [Bool.and_eq_true, decide_eq_true_eq] at hfit
  exact ⟨hfit.1.1, hfit.1.2.1, hfit.1.2.2, hfit.2.2.2⟩)
 obtain ⟨zs, hzs, hRX⟩ := hO.rowX
 obtain ⟨P1, hP1⟩ : ∃ P1, P1 = w.heap.size := ⟨_, rfl⟩
 obtain ⟨w1, hw1⟩ : ∃ w1, w1 = w.alloc (.cells #[.string note, .slice D deps.length dc, .slice A ops.length ac] 25) := ⟨_, rfl⟩
 obtain ⟨w2, hw2⟩ : ∃ w2, w2 = w1.alloc (.cells #[.string ⟨#[]⟩, .slice none 0 0, .slice none 0 0] 25) := ⟨_, rfl⟩
 have hs1 : w1.heap.size = P1 + 1 := by rw [hw1, hP1]; simp
 have hb2 := lh (show Below w.heap.size w w2 by rw [hw2, hw1]; exact ((Below.refl _ _).alloc (Nat.le_refl _) _).alloc (by simp) _)
 have hpt1 : PatAt w1 P1 note D deps.length dc A ops.length ac := by unfold PatAt; rw [hw1, hP1]; exact heap_alloc_at _ _
 have hpt2 := lh (show PatAt w2 P1 note D deps.length dc A ops.length ac by unfold PatAt; rw [hw2, heap_alloc_lt _ _ _ (by omega)]; exact hpt1)
 have hrs2 := lh (show w2.heap[P1 + 1]? = some (.cells #[.string ⟨#[]⟩, .slice none 0 0, .slice none 0 0] 25 (0, 0)) by rw [hw2, <- hs1]; exact heap_alloc_at _ _)
 have hDH := lh hD
 have hOH := lh hO
 have htabH := lh htab
 have hgBH := lh hgB
 have hpH := lh hp
 have hzsH := lh hzs
 have hRXH := lh hRX
 obtain ⟨name, hname⟩ : ∃ name, name = pname note deps ops := ⟨_, rfl⟩
 have CN := lh (show Calls Tryz.prog 11 #[.agg #[.string note, .slice D deps.length dc, .slice A ops.length ac]] w2 fun e w' => e = .returned (.tuple #[.string name, .nilIface]) /\ Below w2.heap.size w2 w' by
  have := pname_c note D dc deps A ac ops w2 (hD.below hb2.out) (hO.below hb2.out) (htab.keep hb2.out hgB) (Nat.lt_of_lt_of_le hgB hb2.out.size)
  unfold nmOf at this
  rw [hp, if_pos rfl, <- hname] at this
  exact this)
 replace hname := lh hname
 clear hp hD hO htab hgB hzs hRX hpt1
 obtain ⟨nd, hnd⟩ : ∃ nd, nd = deps.length := ⟨_, rfl⟩
 obtain ⟨no, hno⟩ : ∃ no, no = ops.length := ⟨_, rfl⟩
 rw [<- hnd, <- hno] at hw1 CN hpt2 ⊢
 replace hnd := lh hnd
 replace hno := lh hno
 refine callsIn_wide (n := 9) |>.1 ?_
 refine callsIn_of_wp_marks Tryz.func10 rfl trivial ?_ rfl
 simp only [Tryz.ntmps10, List.size_toArray, List.length_cons, List.length_nil, Nat.reduceAdd, Nat.reduceSub, Array.replicate_succ, Array.replicate_zero, List.push_toArray, List.append_toArray, List.nil_append, List.cons_append]
 refine wpIn_wide.2 ?_
 obtain ⟨p0, p1, p2, _, _⟩ := blk3' hpt2.out
 go_upto_region 1 with fail
 rw [<- hw1, <- hP1]
 try rw [hs1]
 rw [<- hw2]
 replace hw1 := lh hw1
 replace hw2 := lh hw2
 replace hs1 := lh hs1
 replace hP1 := lh hP1
 go_wp2_with fail
 refine (CN.out).mono ?_
 rintro ev w3 ⟨rfl, hb3⟩
 have hb3w := lh (hb2.out.trans (hb3.mono hb2.out.size))
 have hpt3 := lh (show PatAt w3 P1 note D nd dc A no ac from (hb3.block _ (heap_lt hpt2.out)).trans hpt2.out)
 have hrs3 := lh ((hb3.block _ (heap_lt hrs2.out)).trans hrs2.out)
 obtain ⟨NB, hNB⟩ : ∃ NB, NB = w3.heap.size := ⟨_, rfl⟩
 obtain ⟨w4, hw4⟩ : ∃ w4, w4 = w3.alloc (.cells #[.string name] 9) := ⟨_, rfl⟩
 have hs4 : w4.heap.size = NB + 1 := by rw [hw4, hNB]; simp
 have hn4 : w4.heap[NB]? = some (.cells #[.string name] 9 (0, 0)) := by rw [hw4, hNB]; exact heap_alloc_at _ _
 obtain ⟨w5, hw5⟩ : ∃ w5, w5 = w4.alloc (.cells #[.slice none 0 0] 23) := ⟨_, rfl⟩
 have hb35 := lh (show Below w3.heap.size w3 w5 by rw [hw5, hw4]; exact ((Below.refl _ _).alloc (Nat.le_refl _) _).alloc (by simp) _)
 have hn5 := lh (show w5.heap[NB]? = some (.cells #[.string name] 9 (0, 0)) by rw [hw5, heap_alloc_lt _ _ _ (by omega)]; exact hn4)
 have ho5 := lh (show w5.heap[NB + 1]? = some (.cells #[.slice none 0 0] 23 (0, 0)) by rw [hw5, <- hs4]; exact heap_alloc_at _ _)
 have hb5w := lh (hb3w.out.trans (hb35.out.mono hb3w.out.size))
 have hpt5 := lh (show PatAt w5 P1 note D nd dc A no ac from (hb35.out.block _ (heap_lt hpt3.out)).trans hpt3.out)
 have hrs5 := lh ((hb35.out.block _ (heap_lt hrs3.out)).trans hrs3.out)
 obtain ⟨n0, hn0⟩ : ∃ n0 : Int, n0 = made ops := ⟨_, rfl⟩
 have CM := lh (show Calls Tryz.prog 20 #[.agg #[.string note, .slice D nd dc, .slice A no ac]] w5 fun e w' => e = .returned (.int .i64 n0) /\ Below w5.heap.size w5 w' by
  have := pmade_c note D dc deps A ac ops w5 (hDH.out.below hb5w.out) (hOH.out.below hb5w.out)
  have e := wmade_eq ops 0 (by have := hszs.out; omega)
  rw [show ((0 : Nat) : Int) = 0 from rfl, Nat.zero_add] at e
  rw [e, <- hnd.out, <- hno.out, <- hn0] at this
  exact this)
 replace hn0 := lh hn0
 clear hb3 p0 p1 p2 CN hn4
 go_upto_region 4 with fail
 rw [<- hw4, <- hNB]
 try rw [<- hNB]
 replace hw4 := lh hw4
 replace hNB := lh hNB
 obtain ⟨p0, p1, p2, _, _⟩ := blk3' hpt5.out
 go_upto_region 5 with fail
 rw [<- hw5]
 try rw [hs4]
 replace hw5 := lh hw5
 replace hs4 := lh hs4
 go_wp2_with fail
 refine (CM.out).mono ?_
 rintro ev w6 ⟨rfl, hb6⟩
 have hb6w := lh (hb5w.out.trans (hb6.mono hb5w.out.size))
 have hpt6 := lh (show PatAt w6 P1 note D nd dc A no ac from (hb6.block _ (heap_lt hpt5.out)).trans hpt5.out)
 have hrs6 := lh ((hb6.block _ (heap_lt hrs5.out)).trans hrs5.out)
 have hn6 := lh ((hb6.block _ (heap_lt hn5.out)).trans hn5.out)
 have ho6 := lh ((hb6.block _ (heap_lt ho5.out)).trans ho5.out)
 obtain ⟨cb, hcb⟩ : ∃ cb, cb = w6.heap.size := ⟨_, rfl⟩
 obtain ⟨w7, hw7⟩ : ∃ w7, w7 = w6.alloc (.cells #[.int .i64 n0] 3) := ⟨_, rfl⟩
 have hs7 : w7.heap.size = cb + 1 := by rw [hw7, hcb]; simp
 have hb67 := lh (show Below w6.heap.size w6 w7 by rw [hw7]; exact Wi.below_alloc _ _)
 have hc7 := lh (show w7.heap[cb]? = some (.cells #[.int .i64 n0] 3 (0, 0)) by rw [hw7, hcb]; exact heap_alloc_at _ _)
 have hpt7 := lh (show PatAt w7 P1 note D nd dc A no ac from (hb67.out.block _ (heap_lt hpt6.out)).trans hpt6.out)
 clear hb6 p0 p1 p2 CM
 obtain ⟨p0, p1, p2, _, _⟩ := blk3' hpt7.out
 go_upto_region 6 with fail
 rw [<- hw7, <- hcb]
 replace hcb := lh hcb
 replace hw7 := lh hw7
 go_wp2_with fail
 refine (back_c _ _ _ _).mono ?_
 rintro ev w8 ⟨rfl, hw8⟩
 rw [hs7]
 replace hs7 := lh hs7
 have hb78 := lh (show Below w7.heap.size w7 w8 by rw [hw8]; exact Wi.below_alloc _ _)
 have hs8 := lh (show w8.heap.size = cb + 2 by rw [hw8, size_alloc, hs7.out])
 have hBs8 := lh (show w8.heap[cb + 1]? = some (.cells #[.slice A no ac] 23 (0, 0)) by rw [hw8, <- hs7.out]; exact heap_alloc_at _ _)
 replace hw8 := lh hw8
 clear p0 p1 p2
 go_wp2_with fail
 have hzl := lh (show zs.length = no by rw [hno.out, <- hzsH.out, List.length_map])
 have hno4 := lh (show no <= 400 by rw [hno.out]; exact hszs.out.2.2.1)
 have hb8w := lh (hb6w.out.trans ((hb67.out.trans (hb78.out.mono hb67.out.size)).mono hb6w.out.size))
 have hc8 := lh ((hb78.out.block _ (heap_lt hc7.out)).trans hc7.out)
 have ho8 := lh ((hb78.out.block _ (Nat.lt_of_lt_of_le (heap_lt ho6.out) hb67.out.size)).trans ((hb67.out.block _ (heap_lt ho6.out)).trans ho6.out))
 have hRX8 := lh (show RowX w8 A zs from hRXH.out.below hb8w.out)
 have hxk := lh (show ∀ j : Fin zs.length, ((1 <= zs[j.1].o.k /\ zs[j.1].o.k <= 5) /\ zs[j.1].o.ls.length = mk1 zs[j.1].o) /\ zs[j.1].o.ls.length <= 300 from fun j => by
  have hm : zs[j.1].o ∈ ops := by rw [<- hzsH.out]; exact List.mem_map_of_mem (List.getElem_mem _)
  have h5 := hop5.out _ hm
  have h6 : mk1 zs[j.1].o <= made ops := by
   obtain ⟨i, hi, e⟩ := List.getElem_of_mem hm
   rw [<- e]
   have := made_append (ops.take i) [ops[i]]
   rw [<- List.take_succ_eq_append_getElem hi, made_cons, made_nil] at this
   have := made_take ops (i + 1)
   omega
  exact ⟨⟨h5.1, h5.2.2.2.2⟩, by rw [h5.2.2.2.2]; have := hszs.out.2.2.2; omega⟩)
 obtain ⟨f, hf⟩ : ∃ f : List (Fin zs.length) -> List Op, f = fun pre => pre.map fun j => zs[j.1].o := ⟨_, rfl⟩
 have hBst := back_stops Fence.wide 8 trivial rfl (by omega) (cb + 1) ac A zs (fun b => b < w.heap.size \/ b = cb + 1) w8 (heap_lt hBs8.out) (.inr rfl) (by rw [cell_of hBs8.out, hzl.out]; rfl) (by rw [hzl.out]; have := hno4.out; omega) hRX8.out (fun h0 a ha => ⟨.inl (hRXH.out.lt h0 a ha), hRX8.out.lt h0 a ha⟩)
 have hf0 : f [] = [] := by rw [hf]; rfl
 have hfs : ∀ pre x, f (pre ++ [x]) = f pre ++ [zs[x.1].o] := fun pre x => by rw [hf]; simp only [List.map_append, List.map_cons, List.map_nil]
 have hfl' : ∀ pre, (f pre).length = pre.length /\ ∀ o ∈ f pre, mk1 o <= 300 := fun pre => by
  rw [hf]
  refine ⟨by simp only [List.length_map], fun o ho => ?_⟩
  obtain ⟨j, _, rfl⟩ := List.mem_map.1 ho
  have := hxk.out j
  omega
 replace hf := lh hf
 replace hf0 := lh hf0
 replace hfs := lh hfs
 replace hfl' := lh hfl'
 have h8s : w.heap.size <= w8.heap.size := hb8w.out.size
 have hob8 : NB + 1 < w8.heap.size := heap_lt ho8.out
 have hcb8 : cb < w8.heap.size := heap_lt hc8.out
 have hcb8' : cb + 1 < w8.heap.size := heap_lt hBs8.out
 refine (wpIn_wide (n := 9)).1 ?_
 refine range_box (α := Fin zs.length) rfl (by omega) (gf := 70) (lb := #[.pointer (some ⟨cb + 1, 0, none⟩)]) rfl trivial (enters_of Tryz.func70 (by kernel_rfl) rfl) (encs := encX zs) (Kb := fun b => b < w.heap.size \/ b = cb + 1) hBst (fun b hb => by rcases hb with h | rfl <;> omega) (fun x => rfl)
  (fun pre W => InvI (NB + 1) cb w8.heap.size w8 (n0 - made (f pre)) (binv n0 (f pre)) W) (invI_own (NB + 1) cb w8.heap.size w8.heap.size w8 (fun pre => n0 - made (f pre)) (fun pre => binv n0 (f pre)) (Nat.le_refl _)) ?start 9 38 (fun x => zs[x.1].cells) (InvE (NB + 1)) (fun Bx => invE_own _ _ _) ?assign ?body ?done
 case start => exact ⟨_, ho8.out, by rw [hf0.out]; exact ORow.nil _ _, by rw [hf0.out, made_nil]; rw [show n0 - ((0 : Nat) : Int) = n0 by omega]; exact hc8.out, Tch.refl _ _⟩
 case assign =>
  intro l pre x W K hI hsz hK
  obtain ⟨z, hz⟩ : ∃ z, z = zs[x.1] := ⟨_, rfl⟩
  have e : encX zs x = #[.int .i64 x.1, .agg (opCells z.o z.L z.c)] := by rw [hz]; rfl
  rw [e]
  replace e := lh e
  obtain ⟨⟨k0, a0, m0, b0, n1, ls0⟩, L0, cl0⟩ := z
  unfold opCells at e ⊢
  replace hz := lh hz
  have hIH := lh hI
  clear hI
  gi_wp2
  refine hK _ _ ((KeepsOthers.alloc _ _).from _) (fun b hb => heap_alloc_lt _ _ _ (by rcases hb with h | rfl <;> omega)) ((invI_own (α := Fin zs.length) (NB + 1) cb w8.heap.size w8.heap.size w8 (fun pre => n0 - made (f pre)) (fun pre => binv n0 (f pre)) (Nat.le_refl _)).alloc _ hIH.out) ⟨W.heap.size, hsz, ?_, ?_, ?_⟩
  . rw [heap_alloc_at]
    show some (Obj.cells _ _ _) = some (Obj.cells (zs[x.1]).cells _ _)
    rw [<- hz.out]
    rfl
  . obtain ⟨v, h1, h2, _⟩ := hIH.out
    exact ⟨v, (heap_alloc_lt _ _ _ (heap_lt h1)).trans h1, fun h => by have := (h2.lt _ h).2; omega⟩
  . rw [e.out]
    simp only [List.zip_toArray, List.zip_cons_cons, List.zip_nil_right, List.foldl_toArray, List.foldl_cons, List.foldl_nil, List.setIfInBounds_toArray, List.set_cons_succ, List.set_cons_zero]
 case body =>
  intro l pre x a' W hI hsz hax hlen
  obtain ⟨Bx, hBx, hbx, ⟨v0, hv0, hne⟩, ha'⟩ := hax
  obtain ⟨v, hov, hrow, hcn, hT⟩ := hI
  obtain rfl : v0 = v := by rw [hov] at hv0; cases hv0; rfl
  obtain ⟨z, hz⟩ : ∃ z, z = zs[x.1] := ⟨_, rfl⟩
  have e : encX zs x = #[.int .i64 x.1, .agg (opCells z.o z.L z.c)] := by rw [hz]; rfl
  rw [e] at ha'
  clear e hv0
  have hzk := hxk.out x
  rw [<- hz] at hzk
  have hbx2 : W.heap[Bx]? = some (.cells z.cells 38 (0, 0)) := by rw [hz]; exact hbx
  clear hbx
  obtain ⟨⟨k0, a0, m0, b0, n1, ls0⟩, L0, cl0⟩ := z
  unfold opCells at ha'
  replace hz := lh hz
  simp only [List.zip_toArray, List.zip_cons_cons, List.zip_nil_right, List.foldl_toArray, List.foldl_cons, List.foldl_nil, List.setIfInBounds_toArray, List.set_cons_succ, List.set_cons_zero] at ha'
  subst ha'
  have hK2 : ∀ b, (b < w.heap.size \/ b = cb + 1) -> b < w8.heap.size /\ ¬ (b = NB + 1 \/ b = cb) := fun b hb => by
   have h1 := hNB.out
   have h2 := hcb.out
   have h3 := hb3w.out.size
   have h4 := hb6w.out.size
   have h5 := heap_lt ho6.out
   have h6 := heap_lt hBs8.out
   have h7 := hb8w.out.size
   rcases hb with h | rfl <;> omega
  have hf1 : f (pre ++ [x]) = f pre ++ [⟨k0, a0, m0, b0, n1, ls0⟩] := by rw [hfs.out, <- hz.out]
  obtain ⟨m, hm⟩ : ∃ m : Int, m = n0 - made (f pre) := ⟨_, rfl⟩
  have hmf : made (f pre) <= (f pre).length * 300 := made_le _ _ (hfl'.out pre).2
  have hfl : (f pre).length = pre.length := (hfl'.out pre).1
  have hbl := binv_len (f pre) n0
  have hmb : -120000 <= m /\ m <= 300 := by have := hn0.out; have := hszs.out; have := hzl.out; have := hno4.out; omega
  have hbl2 : (binv n0 (f pre)).length <= 120400 := by have := hzl.out; have := hno4.out; omega
  obtain ⟨L, hL⟩ : ∃ L, L = binv n0 (f pre) := ⟨_, rfl⟩
  rw [<- hm] at hcn
  rw [<- hL] at hrow hbl2
  have hend := fun W' (hk : KeepsOthers W W') (h : InvI (NB + 1) cb w8.heap.size w8 (m - mk1 ⟨k0, a0, m0, b0, n1, ls0⟩) (L ++ stepI m ⟨k0, a0, m0, b0, n1, ls0⟩) W') a => round_end (B0 := w8.heap.size) (Kb := fun b => b < w.heap.size \/ b = cb + 1) (a := a) hK2 hf1 hm hT hk (by rw [<- hL]; exact h)
  have hendH := lh hend
  have hrowH := lh hrow
  have hovH := lh hov
  have hcnH := lh hcn
  have hTH := lh hT
  have hbxH := lh hbx2
  have hneH := lh hne
  have hbl2H := lh hbl2
  simp only at hzk
  have hzkH := lh hzk
  have hob9 : NB + 1 ≠ cb := by
   have h1 := hcb.out
   have h2 := heap_lt ho6.out
   omega
  have hob9' : cb ≠ NB + 1 := fun h => hob9 h.symm
  clear hend hrow hov hcn hT hbx2 hne hf1 hm hmf hfl hbl hbl2 hK2 hL hzk hlen hsz
  by_cases hk1 : k0 = 1
  . subst hk1
    obtain ⟨nl, hnl⟩ : ∃ nl, nl = ls0.length := ⟨_, rfl⟩
    have hnl3 : nl <= 300 := by rw [hnl]; exact hzkH.out.2
    have hcx := six_facts hbxH.out
    simp only [OpX.cells, opCells, <- hnl] at hcx
    obtain ⟨c0, c1, c2, c3, c4, c5, csh, cfz⟩ := hcx
    replace hnl := lh hnl
    have hstep := lh (show stepI m ⟨1, a0, m0, b0, n1, ls0⟩ = dels m nl by unfold stepI; rw [if_pos rfl, hnl.out])
    have hmk := lh (show mk1 ⟨1, a0, m0, b0, n1, ls0⟩ = nl by unfold mk1; rw [if_pos rfl, hnl.out])
    gi_wp2
    gi_loopw [44] (fun i wr => ∃ k : Nat, k <= nl /\ i = .int .i64 k /\ InvI (NB + 1) cb w8.heap.size w8 (m - k) (L ++ dels m k) wr /\ KeepsOthers W wr) (fun i _ => nl - (intOf i).toNat)
    case atStart => exact ⟨0, by omega, rfl, ⟨v0, hovH.out, by rw [show dels m 0 = [] from rfl, List.append_nil]; exact hrowH.out, by rw [show m - ((0 : Nat) : Int) = m by omega]; exact hcnH.out, hTH.out⟩, KeepsOthers.refl _⟩
    case round =>
     obtain ⟨k, hk, rfl, ⟨v, hov, hrow, hcn, hT⟩, hKO⟩ := hrel
     have hrow2 := lh hrow
     have hov2 := lh hov
     have hcn2 := lh hcn
     have hT2 := lh hT
     have hKO2 := lh hKO
     clear c0 c1 c2 c3 c4 c5 csh cfz
     by_cases hkn : k < nl
     . have hki : (k : Int) < (nl : Int) := by omega
       obtain ⟨mk, hmk'⟩ : ∃ mk : Int, mk = m - k := ⟨_, rfl⟩
       rw [<- hmk'] at hcn
       have hmkb : -120300 <= mk /\ mk <= 300 := by omega
       have g0 : wr.cell? ⟨cb, 0, none⟩ = some (.int .i64 mk) := by rw [cell_of hcn]; rfl
       have g1 : wr.frozen? ⟨cb, 0, none⟩ = false := blk_frozen hcn 0
       have g2 : wr.cell? ⟨NB + 1, 0, none⟩ = some v := by rw [cell_of hov]; rfl
       have g3 : wr.frozen? ⟨NB + 1, 0, none⟩ = false := blk_frozen hov 0
       have hovS := lh (show (wr.setCell ⟨cb, 0, none⟩ (.int .i64 (mk - 1))).heap[NB + 1]? = some (.cells #[v] 23 (0, 0)) from (heap_set_ne _ _ _ _ hob9).trans hov)
       have hcnS := lh (show (wr.setCell ⟨cb, 0, none⟩ (.int .i64 (mk - 1))).heap[cb]? = some (.cells #[.int .i64 (mk - 1)] 3 (0, 0)) from heap_set _ _ _ _ _ _ _ hcn)
       have hrowS := lh (show ORow w8.heap.size (wr.setCell ⟨cb, 0, none⟩ (.int .i64 (mk - 1))) v (L ++ dels m k) from hrow.same (fun b hb => heap_set_ne _ _ _ _ (by have := (hrow.lt b hb).1; show b ≠ cb; omega)))
       have hTS := lh (show Tch (fun b => b = NB + 1 \/ b = cb) w8 (wr.setCell ⟨cb, 0, none⟩ (.int .i64 (mk - 1))) from hT.setCell ⟨cb, 0, none⟩ (fun _ => .inr rfl) _)
       obtain ⟨nn, hnn⟩ : ∃ nn, nn = (L ++ dels m k).length := ⟨_, rfl⟩
       have hlb : nn <= 1000000 := by rw [hnn, List.length_append, dels_len]; have := hbl2H.out; omega
       replace hnn := lh hnn
       have hbs := lh (show w8.heap.size <= (wr.setCell ⟨cb, 0, none⟩ (.int .i64 (mk - 1))).heap.size by rw [size_set]; exact hT.size)
       have hnv := lh (show some (NB + 1) ≠ v.ownBlock from fun e => by have := (hrow.lt _ e.symm).1; omega)
       replace hmk' := lh hmk'
       clear hov hrow hcn hT hKO
       gi_wp2_with (gi_at_builtin; refine orow_app ⟨4, -2, mk - 1, 0, 0, []⟩ (by rfl) _ _ _ (by rfl) Tryz.underlying23 (by rfl) 1 _ (by rfl) (by simp only [size_set]) hrowS.out (by rfl) nn hnn.out.symm hlb hbs.out ?_; intro g3 cap3 w3 hrow3 hgrew3; have e0 : w3.cell? ⟨NB + 1, 0, none⟩ = some v := (by rw [cell_of (hgrew3.heap hovS.out hnv.out)]; rfl); have e1 : w3.frozen? ⟨NB + 1, 0, none⟩ = false := blk_frozen (hgrew3.heap hovS.out hnv.out) 0; have hrow3H := lh hrow3; have hgrew3H := lh hgrew3; clear hrow3 hgrew3)
       go_roundw
       case rel =>
        refine ⟨k + 1, by omega, by go_num, ?_, ?_⟩
        . have h := inv_push (x := ⟨4, -2, mk - 1, 0, 0, []⟩) hob9 hob8 hcb8 rfl hovS.out hrowS.out hcnS.out hTS.out hrow3H.out hgrew3H.out
          rw [List.append_assoc, show dels m k ++ [⟨4, -2, mk - 1, 0, 0, []⟩] = dels m (k + 1) by rw [dels_succ, hmk'.out, show m - k - 1 = m - 1 - (k : Int) by omega], show mk - 1 = m - ((k + 1 : Nat) : Int) by have := hmk'.out; omega] at h
          exact h
        . exact ((hKO2.out.trans (KeepsOthers.setCell _ _ _)).trans (keeps_grew hrowS.out hgrew3H.out)).trans (KeepsOthers.setCell _ _ _)
       case measure => simp [intOf]; omega
     . have hke : k = nl := by omega
       subst hke
       have hki : ¬ (k : Int) < (k : Int) := by omega
       clear hov hrow hcn hT hKO
       gi_wp2
       refine hendH.out _ hKO2.out ?_ _
       rw [hmk.out, hstep.out]
       exact ⟨v, hov2.out, hrow2.out, hcn2.out, hT2.out⟩
  . have hmk := lh (show mk1 ⟨k0, a0, m0, b0, n1, ls0⟩ = 0 by unfold mk1; rw [if_neg hk1])
    have hl0 : ls0.length = 0 := by rw [hzkH.out.1.2]; exact hmk.out
    have hbx0 := lh (show W.heap[Bx]? = some (.cells #[.int .i64 k0, .int .i64 a0, .int .i64 m0, .int .i64 b0, .int .i64 n1, .slice L0 0 cl0] 38 (0, 0)) by
     have h := hbxH.out
     simp only [OpX.cells, opCells, hl0] at h
     exact h)
    have hkb : 1 <= k0 /\ k0 <= 5 := hzkH.out.1.1
    have d1 : (k0 == 1) = false := by simpa using hk1
    obtain ⟨c0, c1, c2, c3, c4, c5, csh, cfz⟩ := six_facts hbx0.out
    have hnv := lh (show some (NB + 1) ≠ v0.ownBlock from fun e => by have := (hrowH.out.lt _ e.symm).1; omega)
    obtain ⟨nn, hnn⟩ : ∃ nn, nn = L.length := ⟨_, rfl⟩
    have hlb : nn <= 1000000 := by rw [hnn]; have := hbl2H.out; omega
    replace hnn := lh hnn
    replace hl0 := lh hl0
    by_cases h23 : k0 = 2 \/ k0 = 3
    . by_cases h2 : k0 = 2
      . have d2 : (k0 == 2) = true := by simpa using h2
        have h23H := lh h23
        clear h23 h2
        have hbxS := lh (show (W.setCell ⟨Bx, 0, none⟩ (.int .i64 (5 - k0))).heap[Bx]? = some (.cells #[.int .i64 (5 - k0), .int .i64 a0, .int .i64 m0, .int .i64 b0, .int .i64 n1, .slice L0 0 cl0] 38 (0, 0)) from heap_set _ _ _ _ _ _ _ hbx0.out)
        have hovS := lh (show (W.setCell ⟨Bx, 0, none⟩ (.int .i64 (5 - k0))).heap[NB + 1]? = some (.cells #[v0] 23 (0, 0)) from (heap_set_ne _ _ _ _ (by show NB + 1 ≠ Bx; omega)).trans hovH.out)
        have hcnS := lh (show (W.setCell ⟨Bx, 0, none⟩ (.int .i64 (5 - k0))).heap[cb]? = some (.cells #[.int .i64 m] 3 (0, 0)) from (heap_set_ne _ _ _ _ (by show cb ≠ Bx; omega)).trans hcnH.out)
        have hrowS := lh (show ORow w8.heap.size (W.setCell ⟨Bx, 0, none⟩ (.int .i64 (5 - k0))) v0 L from hrowH.out.same (fun b hb => heap_set_ne _ _ _ _ (by show b ≠ Bx; intro e; subst e; exact hneH.out hb)))
        have hTS := lh (show Tch (fun b => b = NB + 1 \/ b = cb) w8 (W.setCell ⟨Bx, 0, none⟩ (.int .i64 (5 - k0))) from tch_set hTH.out Bx 0 _ hBx)
        have hbs := lh (show w8.heap.size <= (W.setCell ⟨Bx, 0, none⟩ (.int .i64 (5 - k0))).heap.size by rw [size_set]; exact hTH.out.size)
        have hstep := lh (show stepI m ⟨k0, a0, m0, b0, n1, ls0⟩ = [⟨5 - k0, a0, m0, b0, n1, []⟩] by unfold stepI; rw [if_neg hk1, if_pos h23H.out])
        obtain ⟨s0, s1, s2, s3, s4, s5, ssh, sfz⟩ := six_facts hbxS.out
        have q0 : (W.setCell ⟨Bx, 0, none⟩ (.int .i64 (5 - k0))).cell? ⟨NB + 1, 0, none⟩ = some v0 := by rw [cell_of hovS.out]; rfl
        gi_wp2_with (gi_at_builtin; refine orow_app ⟨5 - k0, a0, m0, b0, n1, []⟩ (by rfl) _ _ _ (by rfl) Tryz.underlying23 (by rfl) 1 _ (by rfl) (by simp only [size_set]) hrowS.out (by rfl) nn hnn.out.symm hlb hbs.out ?_; intro g3 cap3 w3 hrow3 hgrew3; have e0 : w3.cell? ⟨NB + 1, 0, none⟩ = some v0 := (by rw [cell_of (hgrew3.heap hovS.out hnv.out)]; rfl); have e1 : w3.frozen? ⟨NB + 1, 0, none⟩ = false := blk_frozen (hgrew3.heap hovS.out hnv.out) 0; have hrow3H := lh hrow3; have hgrew3H := lh hgrew3; clear hrow3 hgrew3 s0 s1 s2 s3 s4 s5 ssh sfz q0)
        refine hendH.out _ (((KeepsOthers.setCell _ _ _).trans (keeps_grew hrowS.out hgrew3H.out)).trans (KeepsOthers.setCell _ _ _)) ?_ _
        rw [hmk.out, hstep.out, show m - ((0 : Nat) : Int) = m by omega]
        exact inv_push hob9 hob8 hcb8 rfl hovS.out hrowS.out hcnS.out hTS.out hrow3H.out hgrew3H.out
      . have d2 : (k0 == 2) = false := by simpa using h2
        have d3 : (k0 == 3) = true := by simp; omega
        have h23H := lh h23
        clear h23 h2
        have hbxS := lh (show (W.setCell ⟨Bx, 0, none⟩ (.int .i64 (5 - k0))).heap[Bx]? = some (.cells #[.int .i64 (5 - k0), .int .i64 a0, .int .i64 m0, .int .i64 b0, .int .i64 n1, .slice L0 0 cl0] 38 (0, 0)) from heap_set _ _ _ _ _ _ _ hbx0.out)
        have hovS := lh (show (W.setCell ⟨Bx, 0, none⟩ (.int .i64 (5 - k0))).heap[NB + 1]? = some (.cells #[v0] 23 (0, 0)) from (heap_set_ne _ _ _ _ (by show NB + 1 ≠ Bx; omega)).trans hovH.out)
        have hcnS := lh (show (W.setCell ⟨Bx, 0, none⟩ (.int .i64 (5 - k0))).heap[cb]? = some (.cells #[.int .i64 m] 3 (0, 0)) from (heap_set_ne _ _ _ _ (by show cb ≠ Bx; omega)).trans hcnH.out)
        have hrowS := lh (show ORow w8.heap.size (W.setCell ⟨Bx, 0, none⟩ (.int .i64 (5 - k0))) v0 L from hrowH.out.same (fun b hb => heap_set_ne _ _ _ _ (by show b ≠ Bx; intro e; subst e; exact hneH.out hb)))
        have hTS := lh (show Tch (fun b => b = NB + 1 \/ b = cb) w8 (W.setCell ⟨Bx, 0, none⟩ (.int .i64 (5 - k0))) from tch_set hTH.out Bx 0 _ hBx)
        have hbs := lh (show w8.heap.size <= (W.setCell ⟨Bx, 0, none⟩ (.int .i64 (5 - k0))).heap.size by rw [size_set]; exact hTH.out.size)
        have hstep := lh (show stepI m ⟨k0, a0, m0, b0, n1, ls0⟩ = [⟨5 - k0, a0, m0, b0, n1, []⟩] by unfold stepI; rw [if_neg hk1, if_pos h23H.out])
        obtain ⟨s0, s1, s2, s3, s4, s5, ssh, sfz⟩ := six_facts hbxS.out
        have q0 : (W.setCell ⟨Bx, 0, none⟩ (.int .i64 (5 - k0))).cell? ⟨NB + 1, 0, none⟩ = some v0 := by rw [cell_of hovS.out]; rfl
        gi_wp2_with (gi_at_builtin; refine orow_app ⟨5 - k0, a0, m0, b0, n1, []⟩ (by rfl) _ _ _ (by rfl) Tryz.underlying23 (by rfl) 1 _ (by rfl) (by simp only [size_set]) hrowS.out (by rfl) nn hnn.out.symm hlb hbs.out ?_; intro g3 cap3 w3 hrow3 hgrew3; have e0 : w3.cell? ⟨NB + 1, 0, none⟩ = some v0 := (by rw [cell_of (hgrew3.heap hovS.out hnv.out)]; rfl); have e1 : w3.frozen? ⟨NB + 1, 0, none⟩ = false := blk_frozen (hgrew3.heap hovS.out hnv.out) 0; have hrow3H := lh hrow3; have hgrew3H := lh hgrew3; clear hrow3 hgrew3 s0 s1 s2 s3 s4 s5 ssh sfz q0)
        refine hendH.out _ (((KeepsOthers.setCell _ _ _).trans (keeps_grew hrowS.out hgrew3H.out)).trans (KeepsOthers.setCell _ _ _)) ?_ _
        rw [hmk.out, hstep.out, show m - ((0 : Nat) : Int) = m by omega]
        exact inv_push hob9 hob8 hcb8 rfl hovS.out hrowS.out hcnS.out hTS.out hrow3H.out hgrew3H.out
    . have d2 : (k0 == 2) = false := by simp; omega
      have d3 : (k0 == 3) = false := by simp; omega
      have h23H := lh h23
      clear h23
      have hbxS := lh (show (W.setCell ⟨Bx, 0, none⟩ (.int .i64 (9 - k0))).heap[Bx]? = some (.cells #[.int .i64 (9 - k0), .int .i64 a0, .int .i64 m0, .int .i64 b0, .int .i64 n1, .slice L0 0 cl0] 38 (0, 0)) from heap_set _ _ _ _ _ _ _ hbx0.out)
      have hovS := lh (show (W.setCell ⟨Bx, 0, none⟩ (.int .i64 (9 - k0))).heap[NB + 1]? = some (.cells #[v0] 23 (0, 0)) from (heap_set_ne _ _ _ _ (by show NB + 1 ≠ Bx; omega)).trans hovH.out)
      have hcnS := lh (show (W.setCell ⟨Bx, 0, none⟩ (.int .i64 (9 - k0))).heap[cb]? = some (.cells #[.int .i64 m] 3 (0, 0)) from (heap_set_ne _ _ _ _ (by show cb ≠ Bx; omega)).trans hcnH.out)
      have hrowS := lh (show ORow w8.heap.size (W.setCell ⟨Bx, 0, none⟩ (.int .i64 (9 - k0))) v0 L from hrowH.out.same (fun b hb => heap_set_ne _ _ _ _ (by show b ≠ Bx; intro e; subst e; exact hneH.out hb)))
      have hTS := lh (show Tch (fun b => b = NB + 1 \/ b = cb) w8 (W.setCell ⟨Bx, 0, none⟩ (.int .i64 (9 - k0))) from tch_set hTH.out Bx 0 _ hBx)
      have hbs := lh (show w8.heap.size <= (W.setCell ⟨Bx, 0, none⟩ (.int .i64 (9 - k0))).heap.size by rw [size_set]; exact hTH.out.size)
      have hstep := lh (show stepI m ⟨k0, a0, m0, b0, n1, ls0⟩ = [⟨9 - k0, a0, m0, b0, n1, []⟩] by unfold stepI; rw [if_neg hk1, if_neg h23H.out])
      obtain ⟨s0, s1, s2, s3, s4, s5, ssh, sfz⟩ := six_facts hbxS.out
      have q0 : (W.setCell ⟨Bx, 0, none⟩ (.int .i64 (9 - k0))).cell? ⟨NB + 1, 0, none⟩ = some v0 := by rw [cell_of hovS.out]; rfl
      gi_wp2_with (gi_at_builtin; refine orow_app ⟨9 - k0, a0, m0, b0, n1, []⟩ (by rfl) _ _ _ (by rfl) Tryz.underlying23 (by rfl) 1 _ (by rfl) (by simp only [size_set]) hrowS.out (by rfl) nn hnn.out.symm hlb hbs.out ?_; intro g3 cap3 w3 hrow3 hgrew3; have e0 : w3.cell? ⟨NB + 1, 0, none⟩ = some v0 := (by rw [cell_of (hgrew3.heap hovS.out hnv.out)]; rfl); have e1 : w3.frozen? ⟨NB + 1, 0, none⟩ = false := blk_frozen (hgrew3.heap hovS.out hnv.out) 0; have hrow3H := lh hrow3; have hgrew3H := lh hgrew3; clear hrow3 hgrew3 s0 s1 s2 s3 s4 s5 ssh sfz q0)
      refine hendH.out _ (((KeepsOthers.setCell _ _ _).trans (keeps_grew hrowS.out hgrew3H.out)).trans (KeepsOthers.setCell _ _ _)) ?_ _
      rw [hmk.out, hstep.out, show m - ((0 : Nat) : Int) = m by omega]
      exact inv_push hob9 hob8 hcb8 rfl hovS.out hrowS.out hcnS.out hTS.out hrow3H.out hgrew3H.out
 case done =>
  rintro Dm xs W hDm rfl hI hDef
  rw [show f (List.finRange zs.length).reverse = ops.reverse by rw [hf.out, <- hzsH.out]; exact range_rev zs] at hI
  rw [show n0 - (made ops.reverse : Int) = 0 by have e : made ops.reverse = made ops := by unfold made; rw [List.map_reverse, List.sum_reverse]
                                                rw [e]; have := hn0.out; omega] at hI
  obtain ⟨v, hov, hrow, hcn, hT⟩ := hI
  rw [show binv n0 ops.reverse = bops ops by unfold bops; rw [<- hn0.out]] at hrow
  have hrowH := lh hrow
  have hovH := lh hov
  have hTH := lh hT
  have hDefH := lh hDef
  have hkeep := lh (show ∀ b, b < w6.heap.size -> b ≠ NB + 1 -> W.heap[b]? = w6.heap[b]? from fun b hb hne => by
   have h1 := hcb.out
   exact (hT.block b (by have := hb67.out.size; have := hb78.out.size; omega) (by show ¬ (b = NB + 1 \/ b = cb); omega)).trans ((hb78.out.block b (by have := hb67.out.size; omega)).trans (hb67.out.block b hb)))
  have hBW := lh (show Below w.heap.size w W from hb8w.out.trans (hT.below (B := w.heap.size) hb8w.out.size (fun k hk _ => by have h1 := hcb.out; have h2 := hNB.out; have h3 := hb3w.out.size; have h4 := hb6w.out.size; have h5 := heap_lt ho6.out; rcases hk with rfl | rfl <;> omega)))
  have hnW := lh ((hkeep.out NB (heap_lt hn6.out) (by omega)).trans hn6.out)
  have hP1n : P1 ≠ NB + 1 /\ P1 + 1 ≠ NB + 1 := by have := heap_lt hrs3.out; have := hNB.out; omega
  have hptW := lh (show PatAt W P1 note D nd dc A no ac from (hkeep.out P1 (heap_lt hpt6.out) hP1n.1).trans hpt6.out)
  have hrsW := lh ((hkeep.out (P1 + 1) (heap_lt hrs6.out) hP1n.2).trans hrs6.out)
  have hTxW := lh (hDH.out.below hBW.out)
  obtain ⟨Av, nb, cv, rfl, hnb, hOpsW, hAv, hcurW⟩ : ∃ Av nb cv, v = .slice Av nb cv /\ nb = (bops ops).length /\ OpsAt W Av cv (bops ops) /\ (∀ ad, Av = some ad -> w8.heap.size <= ad.block /\ ad.block < W.heap.size /\ ∃ cur, W.heap[ad.block]? = some (.cells cur 38 (0, 0))) /\ (0 < nb -> ∃ g cur, Av = some ⟨g, 0, none⟩ /\ W.heap[g]? = some (.cells cur 38 (0, 0)) /\ CurAt cur (bops ops)) := by
   rcases hrow.form with ⟨h1, h2⟩ | ⟨g, cap, cur, h1, h2, h3, h4, h5⟩
   . exact ⟨none, 0, 0, h1, by rw [h2]; rfl, ⟨by rw [h2]; exact Nat.le_refl _, by rw [h2]; simp, fun h => absurd h (by rw [h2]; simp)⟩, fun ad h => (by cases h), fun h => absurd h (by omega)⟩
   . have hbl := bops_len ops
     exact ⟨some ⟨g, 0, none⟩, _, cap, h1, rfl, curAt_ops h3 h4 h5 (by have := hszs.out; omega), fun ad h => by cases h; exact ⟨h2, heap_lt h3, cur, h3⟩, fun _ => ⟨g, cur, rfl, h3, h4⟩⟩
  have hnb4 := lh (show nb <= 700 by rw [hnb]; have := bops_len ops; have := hszs.out; omega)
  obtain ⟨B2, hB2⟩ : ∃ B2, B2 = W.heap.size := ⟨_, rfl⟩
  obtain ⟨W1, hW1⟩ : ∃ W1, W1 = W.alloc (.cells #[.string name] 9) := ⟨_, rfl⟩
  obtain ⟨W2, hW2⟩ : ∃ W2, W2 = W1.alloc (.cells #[.string ⟨#[117, 110, 100, 111]⟩, .slice (some ⟨B2, 0, none⟩) 1 1, .slice none 0 0] 25) := ⟨_, rfl⟩
  have hsW1 : W1.heap.size = B2 + 1 := by rw [hW1, hB2]; simp
  have hsW2 := lh (show W2.heap.size = B2 + 2 by rw [hW2, size_alloc, hsW1])
  have hbW2 := lh (show Below B2 W W2 by rw [hW2, hW1, hB2]; exact ((Below.refl _ _).alloc (Nat.le_refl _) _).alloc (by simp) _)
  have hrow2 := lh (show StrRow B2 W2 (.slice (some ⟨B2, 0, none⟩) 1 1) [name] from strRow_one (Nat.le_refl _) (by
   rw [hW2, heap_alloc_lt _ _ _ (by omega), hW1, hB2]; exact heap_alloc_at _ _))
  have hQ2 := lh (show QAt W2 (B2 + 1) (.slice (some ⟨B2, 0, none⟩) 1 1) by unfold QAt undoB; rw [hW2, <- hsW1]; exact heap_alloc_at _ _)
  have hb2k : ∀ {b : Nat} {o : Obj}, W.heap[b]? = some o -> W2.heap[b]? = some o := fun h => (hbW2.out.block _ (by rw [hB2]; exact heap_lt h)).trans h
  have hov2 := lh (hb2k hov)
  have hn2 := lh (hb2k hnW.out)
  have hpt2' := lh (show PatAt W2 P1 note D nd dc A no ac from hb2k hptW.out)
  have hrs2' := lh (hb2k hrsW.out)
  have hDef2 := lh (hb2k hDef)
  have hbB2 : ∀ {b : Nat} {o : Obj}, W.heap[b]? = some o -> b < B2 := fun h => by rw [hB2]; exact heap_lt h
  have hlt := lh (show NB + 1 < B2 /\ NB < B2 /\ P1 < B2 /\ P1 + 1 < B2 /\ Dm < B2 from ⟨hbB2 hov, hbB2 hnW.out, hbB2 hptW.out, hbB2 hrsW.out, hbB2 hDef⟩)
  have hDlt := lh (show ∀ ad, D = some ad -> 0 < deps.length -> ad.block < w.heap.size from fun ad had h0 => by
   obtain ⟨b', o', e, hcell⟩ := str_cell hDH.out.1 0 h0
   rw [had] at e
   cases e
   exact World.block_lt_of_cell? w _ hcell)
  have hAvH := lh hAv
  have hcurH := lh hcurW
  have hOpsH := lh hOpsW
  have hbW2s : Below W.heap.size W W2 := by rw [<- hB2]; exact hbW2.out
  have CE := lh (show Calls Tryz.prog 30 #[.func (.func 31) #[] #[.pointer (some ⟨B2 + 1, 0, none⟩), .pointer (some ⟨P1, 0, none⟩)], .pointer (some ⟨NB + 1, 0, none⟩)] W2 (Coll B2 (B2 + 1) ([name] ++ (bops ops).flatMap (opd deps)) W2) from
   eachc_c (NB + 1) (B2 + 1) P1 B2 note D dc deps A no ac _ [name] Av cv (bops ops) W2 (by rw [cell_of hov2.out, <- hnb]; rfl) hlt.out.1 (hOpsW.below hbW2s) (fun ad had => by rw [hB2]; exact (hAv ad had).2.1) (by rw [<- hnb]; have := hnb4.out; omega) (fun o ho => bops_refs hfit.out o ho) hQ2.out (by omega) (by rw [<- hnd.out]; exact hpt2'.out) hlt.out.2.2.1 (hTxW.out.below hbW2s) (fun ad had h0 => by have := hDlt.out ad had h0; have := hBW.out.size; omega) hrow2.out (by simp) (by rw [hsW2.out]; omega))
  replace hnb := lh hnb
  clear hrow hov hT hDef hcn hAv hcurW hOpsW hb2k hbB2 hbW2s
  have hmf : ∀ (fn : Fn) (first cap : Array Value) (w : World), (Instr.makeFunc fn first cap).run Tryz.prog w = .ok (.func fn first cap) w := fun _ _ _ _ => rfl
  have n0' : W.cell? ⟨NB, 0, none⟩ = some (.string name) := by rw [cell_of hnW.out]; rfl
  go_upto_region 22 with fail
  rw [<- hW1, <- hB2]
  try rw [hsW1]
  rw [<- hW2]
  replace hW1 := lh hW1
  replace hW2 := lh hW2
  replace hB2 := lh hB2
  replace hsW1 := lh hsW1
  clear n0'
  go_wp2_with fail
  refine (CE.out).mono ?_
  rintro ev w9 ⟨rfl, v9, hQ9, hrow9, hb9⟩
  have hb29 := lh (hbW2.out.trans hb9)
  have hQ9H := lh hQ9
  have hrow9H := lh hrow9
  have hl9 := lh (show ([name] ++ (bops ops).flatMap (opd deps)).length <= 100000 by
   rw [List.length_append, List.length_singleton]
   have := opds_len deps (bops ops)
   have := hnb.out
   have := hnb4.out
   omega)
  have CS := lh (sort_c hrow9 (by have := hl9.out; omega))
  obtain ⟨q0, q1, q2, _, _⟩ := blk3' hQ9
  clear hQ9 hrow9 hb9
  go_wp2_with fail
  refine (CS.out).mono ?_
  rintro ev w10 ⟨rfl, hrow10, hg10⟩
  have hQ10 := lh (show QAt w10 (B2 + 1) v9 from hg10.heap hQ9H.out (srow_ne hrow9H.out hQ9H.out))
  have hb10 := lh (show Below B2 W w10 from hg10.below hb29.out (by have := hb29.out.size; have := hB2.out; omega) (fun k hk => (hrow9H.out.lt k hk).1))
  have hrow10H := lh hrow10
  have CCp := lh (compact_c hrow10 (by unfold sortL; rw [List.length_mergeSort, toL_len]; have := hl9.out; omega))
  clear q0 q1 q2 hrow10 hg10
  obtain ⟨q0, q1, q2, _, _⟩ := blk3' hQ10.out
  go_wp2_with fail
  refine (CCp.out).mono ?_
  rintro ev w11 ⟨v11, rfl, hrow11, hg11, _⟩
  have hrow11' : StrRow B2 w11 v11 (ideps name deps ops) := hrow11
  obtain ⟨E, ec, hv11, hec, hE11, hEb⟩ := hrow11'.read
  have hQ11 := lh (show QAt w11 (B2 + 1) v9 from hg11.heap hQ10.out (srow_ne hrow10H.out hQ10.out))
  have hb11 := lh (show Below B2 W w11 from hg11.below hb10.out (by have := hb10.out.size; have := hB2.out; omega) (fun k hk => (hrow10H.out.lt k hk).1))
  obtain ⟨nq, hnq⟩ : ∃ nq, nq = (ideps name deps ops).length := ⟨_, rfl⟩
  have hnq4 := lh (show nq <= 100000 by
   rw [hnq]
   unfold ideps
   rw [ofL_len]
   refine Nat.le_trans (compact_len _) ?_
   unfold sortL
   rw [List.length_mergeSort, toL_len]
   have := hl9.out
   exact this)
  rw [<- hnq] at hv11
  subst hv11
  have hTE := lh (show TxAt w11 E ec (ideps name deps ops) from ⟨hE11, hec, by have := hnq4.out; omega, ideps_size hname.out hDH.out.2.2.2⟩)
  have hrow11H := lh hrow11'
  have hEbH := lh hEb
  replace hnq := lh hnq
  clear q0 q1 q2 hrow11 hrow11' hg11 hE11 hEb hec
  obtain ⟨q0, q1, q2, qsh, qfz⟩ := blk3' hQ11.out
  obtain ⟨w12, hw12⟩ : ∃ w12, w12 = w11.setCell ⟨B2 + 1, 1, none⟩ (.slice E nq ec) := ⟨_, rfl⟩
  have hQ12 := lh (show QAt w12 (B2 + 1) (.slice E nq ec) by rw [hw12]; exact heap_set _ _ _ _ _ _ _ hQ11.out)
  have hs12 : w12.heap.size = w11.heap.size := by rw [hw12, size_set]
  have hne12 := lh (show ∀ ad, E = some ad -> ad.block ≠ B2 + 1 from fun ad had e => by
   refine srow_ne hrow11H.out hQ11.out ?_
   rw [had]
   show some (B2 + 1) = some ad.block
   rw [e])
  have hTE12 := lh (show TxAt w12 E ec (ideps name deps ops) from hTE.out.move fun _ ad had => by rw [hw12]; exact heap_set_ne _ _ _ _ (hne12.out ad had))
  have hb12 := lh (show Below B2 W w12 by rw [hw12]; exact hb11.out.setCell (by show B2 <= B2 + 1; omega) _)
  obtain ⟨pb, hpb⟩ : ∃ pb, pb = w12.heap.size := ⟨_, rfl⟩
  obtain ⟨w13, hw13⟩ : ∃ w13, w13 = w12.alloc (.cells #[.func (.func 34) #[] #[.pointer (some ⟨B2 + 1, 0, none⟩)]] 66) := ⟨_, rfl⟩
  have hbb13 := lh (show Below w12.heap.size w12 w13 by rw [hw13]; exact Wi.below_alloc _ _)
  have hpb13 := lh (show w13.heap[pb]? = some (.cells #[.func (.func 34) #[] #[.pointer (some ⟨B2 + 1, 0, none⟩)]] 66 (0, 0)) by rw [hw13, hpb]; exact heap_alloc_at _ _)
  have hpbs : B2 + 1 < pb := by rw [hpb]; exact heap_lt hQ12.out
  have hb13 := lh (show Below B2 W w13 from hb12.out.trans (hbb13.out.mono (by rw [<- hpb]; omega)))
  have hQ13 := lh (show QAt w13 (B2 + 1) (.slice E nq ec) from (hbb13.out.block _ (heap_lt hQ12.out)).trans hQ12.out)
  have hTE13 := lh (hTE12.out.below hbb13.out)
  have hk13 := lh (show ∀ (b : Nat) (o : Obj), b < B2 -> W.heap[b]? = some o -> w13.heap[b]? = some o from fun b o hb h => (hb13.out.block _ hb).trans h)
  have hnbk := lh (show ∀ g cur, Av = some ⟨g, 0, none⟩ -> W.heap[g]? = some (.cells cur 38 (0, 0)) -> w13.heap[g]? = some (.cells cur 38 (0, 0)) from fun g cur _ h => hk13.out g _ (by rw [hB2.out]; exact heap_lt h) h)
  have CT := lh (show Calls Tryz.prog 30 #[.func (.func 36) #[] #[.pointer (some ⟨pb, 0, none⟩), .pointer (some ⟨P1, 0, none⟩), .pointer (some ⟨NB, 0, none⟩)], .pointer (some ⟨NB + 1, 0, none⟩)] w13 (TurnRes Av nb cv (iops name deps ops) w13) by
   have hob13 := hk13.out _ _ hlt.out.1 hovH.out
   have hbsW : Below W.heap.size W w13 := by rw [<- hB2.out]; exact hb13.out
   by_cases h0 : 0 < nb
   . obtain ⟨g, cur, hg, hgW, hcur⟩ := hcurH.out h0
     have hgl : w8.heap.size <= g /\ g < B2 := by
      have := hAvH.out _ hg
      rw [hB2.out]
      exact ⟨this.1, this.2.1⟩
     subst hg
     have h8 := hcb8
     have h8' := hob8
     have hP1b := heap_lt hpt6.out
     have hc6 := hcb.out
     have hnl := heap_lt hn6.out
     refine (eacht_c (NB + 1) (B2 + 1) P1 NB pb g name note D dc deps A no ac E ec (ideps name deps ops) cv (bops ops) cur w13 (by rw [cell_of hob13, <- hnb.out]; rfl) (by omega) (hnbk.out g cur rfl hgW) hcur (by rw [<- hnb.out]; have := hnb4.out; omega) (fun o ho => bops_refs hfit.out o ho) (by rw [<- hnq.out]; exact hQ13.out) (by omega) (by rw [<- hnd.out]; exact hk13.out _ _ hlt.out.2.2.1 hptW.out) (by omega) (hTxW.out.below hbsW) (fun ad had h0 => by have := hDlt.out ad had h0; have := hb8w.out.size; omega) hTE13.out (fun ad had h0 => by have := hEbH.out ad had; omega) (by rw [cell_of (hk13.out _ _ hlt.out.2.1 hnW.out)]; rfl) (by omega) (by rw [cell_of hpb13.out]; rfl) (by omega)).mono ?_
     rintro e w' ⟨he, cur', hb', hc', hT'⟩
     refine ⟨he, fun _ => ⟨g, cur', rfl, hb', hc'⟩, ?_⟩
     exact ⟨hT'.os, hT'.tape, hT'.output, hT'.size, fun k hk hs => hT'.block k hk (fun e => hs ⟨⟨g, 0, none⟩, rfl, e⟩)⟩
   . have hn0' : nb = 0 := by omega
     have hbe : bops ops = [] := List.eq_nil_of_length_eq_zero (by rw [<- hnb.out]; exact hn0')
     refine (each_nil _ (NB + 1) Av cv w13 (by rw [cell_of hob13, hn0']; rfl)).mono ?_
     rintro e w' ⟨he, rfl⟩
     exact ⟨he, fun h => absurd h h0, Tch.refl _ _⟩)
  replace hs12 := lh hs12
  go_upto_region 26 with fail
  rw [<- hw12]
  replace hw12 := lh hw12
  go_upto_region 27 with fail
  try rw [<- hw13]
  rw [<- hpb]
  replace hpb := lh hpb
  replace hw13 := lh hw13
  clear q0 q1 q2 qsh qfz
  go_wp2_with fail
  refine (CT.out).mono ?_
  rintro ev w14 ⟨rfl, hcur14, hT14⟩
  have hsB := lh (show w8.heap.size <= B2 by rw [hB2.out]; exact hTH.out.size)
  have hk14 := lh (show ∀ (b : Nat) (o : Obj), W.heap[b]? = some o -> (∀ cur, o ≠ .cells cur 38 (0, 0)) -> w14.heap[b]? = some o from fun b o h hne => by
   have hb : b < B2 := by rw [hB2.out]; exact heap_lt h
   refine (hT14.block b (Nat.lt_of_lt_of_le hb (by have := hb13.out.size; have := hB2.out; omega)) ?_).trans (hk13.out b o hb h)
   rintro ⟨ad, had, rfl⟩
   obtain ⟨_, _, cur, hc⟩ := hAvH.out ad had
   rw [hc] at h
   cases h
   exact hne _ rfl)
  have hAvB := lh (show ∀ ad, Av = some ad -> ad.block < B2 from fun ad had => by rw [hB2.out]; exact (hAvH.out ad had).2.1)
  have hk14' := lh (show ∀ (b : Nat) (o : Obj), B2 <= b -> w13.heap[b]? = some o -> w14.heap[b]? = some o from fun b o hb h => by
   refine (hT14.block b (heap_lt h) ?_).trans h
   rintro ⟨ad, had, rfl⟩
   have := hAvB.out ad had
   omega)
  have hQ14 := lh (show QAt w14 (B2 + 1) (.slice E nq ec) from hk14'.out _ _ (by omega) hQ13.out)
  have hob14 := lh (hk14.out _ _ hovH.out (fun cur h => by cases h))
  have hrs14 := lh (hk14.out _ _ hrsW.out (fun cur h => by cases h))
  have hdf14 := lh (hk14.out _ _ hDefH.out (fun cur h => by cases h))
  have hTE14 := lh (show TxAt w14 E ec (ideps name deps ops) from hTE13.out.move fun h0 ad had => by
   obtain ⟨b', o', e, hcell⟩ := str_cell hTE13.out.1 0 h0
   have e2 := had
   rw [e] at e2
   cases e2
   have hl := World.block_lt_of_cell? w13 _ hcell
   refine hT14.block _ hl ?_
   rintro ⟨ad', had', h⟩
   have := hAvB.out ad' had'
   have := hEbH.out _ had
   simp only at h this
   omega)
  have hb14 := lh (show Below w.heap.size w w14 from (hBW.out.trans (hb13.out.mono (by rw [hB2.out]; exact hBW.out.size))).trans (hT14.below (by have := hb13.out.size; have := hBW.out.size; omega) (fun k ⟨ad, had, e⟩ _ => by have := (hAvH.out ad had).1; have := hb8w.out.size; omega)))
  have hcur14H := lh hcur14
  have hil := lh (show (iops name deps ops).length = nb by unfold iops; rw [List.length_map, hnb.out])
  have hnbc := lh (show nb <= cv by rw [hnb.out]; exact hOpsH.out.1)
  clear hT14 hcur14
  obtain ⟨w15, hw15⟩ : ∃ w15, w15 = w14.setCell ⟨B2 + 1, 2, none⟩ (.slice Av nb cv) := ⟨_, rfl⟩
  have hq15 := lh (show w15.heap[B2 + 1]? = some (.cells #[.string undoB, .slice E nq ec, .slice Av nb cv] 25 (0, 0)) by rw [hw15]; exact heap_set _ _ _ _ _ _ _ hQ14.out)
  have hk15 := lh (show ∀ b, b ≠ B2 + 1 -> w15.heap[b]? = w14.heap[b]? from fun b hb => by rw [hw15]; exact heap_set_ne _ _ _ _ hb)
  have hb15 := lh (show Below w.heap.size w w15 by rw [hw15]; exact hb14.out.setCell (by show w.heap.size <= B2 + 1; have := hBW.out.size; have := hB2.out; omega) _)
  have hTE15 := lh (show TxAt w15 E ec (ideps name deps ops) from hTE14.out.move fun _ ad had => hk15.out _ (hne12.out ad had))
  have hO15 := lh (show OpsAt w15 Av cv (iops name deps ops) from ops_of (fun h0 => by
   obtain ⟨g, cur, hg, h1, h2⟩ := hcur14H.out h0
   have := hAvB.out _ hg
   simp only at this
   exact ⟨g, cur, hg, (hk15.out g (by omega)).trans h1, h2⟩) hil.out hnbc.out (by have := hnb4.out; omega))
  have hrs15 := lh ((hk15.out (P1 + 1) (by have := hlt.out; omega)).trans hrs14.out)
  have hdf15 := lh ((hk15.out Dm (by have := hlt.out; omega)).trans hdf14.out)
  obtain ⟨pr, hpr⟩ : ∃ pr, pr = pright undoB (ideps name deps ops) (iops name deps ops) := ⟨_, rfl⟩
  have CR := lh (show Calls Tryz.prog 19 #[.agg #[.string undoB, .slice E nq ec, .slice Av nb cv]] w15 fun e w' => e = .returned (.bool pr) /\ Below w15.heap.size w15 w' by
   have := pright_c undoB E ec (ideps name deps ops) Av cv (iops name deps ops) w15 hTE15.out hO15.out (htabH.out.keep hb15.out hgBH.out) (Nat.lt_of_lt_of_le hgBH.out hb15.out.size)
   rw [<- hpr, <- hnq.out, hil.out] at this
   exact this)
  replace hpr := lh hpr
  have o0 : w14.cell? ⟨NB + 1, 0, none⟩ = some (.slice Av nb cv) := by rw [cell_of hob14.out]; rfl
  obtain ⟨q0, q1, q2, qsh, qfz⟩ := blk3' hQ14.out
  go_upto_region 29 with fail
  rw [<- hw15]
  replace hw15 := lh hw15
  clear q0 q1 q2 qsh qfz o0
  obtain ⟨q0, q1, q2, _, _⟩ := blk3' hq15.out
  go_wp2_with fail
  refine (CR.out).mono ?_
  rintro ev w16 ⟨rfl, hb16⟩
  have hb16w := lh (hb15.out.trans (hb16.mono hb15.out.size))
  have hq16 := lh ((hb16.block _ (heap_lt hq15.out)).trans hq15.out)
  have hrs16 := lh ((hb16.block _ (heap_lt hrs15.out)).trans hrs15.out)
  have hdf16 := lh ((hb16.block _ (heap_lt hdf15.out)).trans hdf15.out)
  have hTE16 := lh (hTE15.out.below hb16)
  have hO16 := lh (hO15.out.below hb16)
  have hb16H := lh hb16
  clear q0 q1 q2 hb16
  obtain ⟨q0, q1, q2, _, _⟩ := blk3' hq16.out
  obtain ⟨r0, r1, r2, rsh, rfz⟩ := blk3' hrs16.out
  have hDn := lh (show P1 + 1 ≠ Dm from fun e => by
   have h1 := hrs16.out
   have h2 := hdf16.out
   rw [e, h2] at h1
   cases h1)
  have hdfF := lh (fun x y z => (set3_ne (w := w16) (g := P1 + 1) (k := Dm) (fun e => hDn.out e.symm) x y z).trans hdf16.out)
  have hP1w := lh (show w.heap.size <= P1 + 1 by have := hP1.out; omega)
  have hDmw := lh (show w.heap.size <= Dm by have := hb8w.out.size; omega)
  have hTEF := lh (fun x y z => show TxAt (fin3 w16 (P1 + 1) Dm x y z) E ec (ideps name deps ops) from hTE16.out.move fun _ ad had => fin3_ne _ _ _ (by have := hEbH.out ad had; have := hlt.out; omega) (by have := hEbH.out ad had; have := hlt.out; omega))
  have hOF := lh (fun x y z => show OpsAt (fin3 w16 (P1 + 1) Dm x y z) Av cv (iops name deps ops) from ops_of (fun h0 => by
   obtain ⟨g, cur, hg, h1, h2⟩ := hcur14H.out h0
   have h3 := hAvB.out _ hg
   have h4 := (hAvH.out _ hg).1
   simp only at h3 h4
   have h5 := hk15.out g (by omega)
   have h6 : w15.heap[g]? = some (.cells cur 38 (0, 0)) := h5.trans h1
   refine ⟨g, cur, hg, ?_, h2⟩
   rw [fin3_ne _ _ _ (by have := heap_lt hrs6.out; have := hcb.out; omega) (fun e => by
    have h7 := hdf14.out
    rw [<- e, h1] at h7
    cases h7)]
   exact (hb16H.out.block g (heap_lt h6)).trans h6) hil.out hnbc.out (by have := hnb4.out; omega))
  cases pr with
  | false =>
   go_wp2_with fail
   refine ⟨by simp, .inl ⟨_, _, rfl, run_takeDeferred (hdfF.out _ _ _), ?_⟩⟩
   refine ⟨_, Go.Proofs.YtbiioaggilaebaaGreatDoor.Tm.results_cell_tmp rfl _ _ (P1 + 1) 25 #[.string ⟨#[]⟩, .slice none 0 0, .slice none 0 0] (0, 0) _ rfl (fin3_at _ _ _ hrs16.out hDn.out) Tryz.underlying25 rfl (by kernel_rfl) _ rfl, ?_⟩
   rw [hR.out, <- hname.out]
   exact ⟨fin3_below _ _ _ hb16w.out hP1w.out hDmw.out, .inr ⟨hpr.out.symm, rfl⟩⟩
  | true =>
   go_wp2_with fail
   refine ⟨by simp, .inl ⟨_, _, rfl, run_takeDeferred (hdfF.out _ _ _), ?_⟩⟩
   refine ⟨_, Go.Proofs.YtbiioaggilaebaaGreatDoor.Tm.results_cell_tmp rfl _ _ (P1 + 1) 25 #[.string undoB, .slice E nq ec, .slice Av nb cv] (0, 0) _ rfl (fin3_at _ _ _ hrs16.out hDn.out) Tryz.underlying25 rfl (by kernel_rfl) _ rfl, ?_⟩
   rw [hR.out, <- hname.out]
   exact ⟨fin3_below _ _ _ hb16w.out hP1w.out hDmw.out, .inl ⟨hpr.out.symm, E, ec, Av, cv, by rw [<- hnq.out, hil.out]; rfl, hTEF.out _ _ _, hOF.out _ _ _⟩⟩
end Go.Proofs.YtbiioaggilaebaaGreatDoor.Pa
