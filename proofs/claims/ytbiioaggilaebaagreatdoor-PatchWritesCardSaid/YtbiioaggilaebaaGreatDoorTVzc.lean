/- What LawPatchWrites lean on, part zc of 29: the texts PcL, PcM, PsW, CardP, PsWa. -/
import Derived.Test.YtbiioaggilaebaaGreatDoorTVg
import Derived.Test.YtbiioaggilaebaaGreatDoorTVs
import Derived.Test.YtbiioaggilaebaaGreatDoorTVx
import Derived.Test.YtbiioaggilaebaaGreatDoorTVza
import Derived.Test.YtbiioaggilaebaaGreatDoorTVzb
import Derived.Test.YtbiioaggilaebaaGreatDoorRows
import Derived.Lib.LaidTab
import Derived.Stop.LaidErr
import Derived.LaidSub
import Derived.MakeChecks
set_option linter.unusedVariables false
set_option linter.unusedSimpArgs false
namespace Go.Proofs.YtbiioaggilaebaaGreatDoor.Pa
open Go Go.RowKit Go.Proofs.YtbiioaggilaebaaGreatDoor.B Go.Proofs.YtbiioaggilaebaaGreatDoor.Tm Go.Proofs.YtbiioaggilaebaaGreatDoor.Wi
def awOp : Op := ⟨1, -1, 0, -1, 1, [⟨#[97]⟩]⟩
theorem aw_right : pright ⟨#[]⟩ [] [awOp] = true := by decide +kernel
theorem aw_bops : bops [awOp] = [⟨4, -2, 0, 0, 0, []⟩] := rfl
theorem aw_ideps (name : ByteArray) : ideps name [] [awOp] = [name] := by
  unfold ideps
  rw [aw_bops]
  have h : (name :: ([⟨4, -2, 0, 0, 0, []⟩] : List Op).flatMap (opd [])) = [name] := rfl
  rw [h]
  have h2 : sortL (toL [name]) = toL [name] := by unfold sortL toL; simp
  rw [h2, Lib.compact_all (toL [name]) (fun j hj => by
    have : j = 0 := by simp [toL] at hj; omega
    subst this
    simp [Lib.keeps]), ofL_toL]
theorem aw_iops (name : ByteArray) : iops name [] [awOp] = [⟨4, 0, 0, 0, 0, []⟩] := by
  unfold iops
  rw [aw_ideps, aw_bops]
  unfold tnOp tn place placeF
  simp [setA]
theorem name_right (s : List UInt8) : Dig.rightL (Sha.nameL s) = true := by
  unfold Dig.rightL Sha.nameL
  rw [Dig.rawL_hexL, Sha.hexL_len, Sha.shaL_len]
  rfl
theorem pname_right (note : ByteArray) (deps : List ByteArray) (ops : List Op) : Dig.rightL (pname note deps ops).data.toList = true := by
  unfold pname
  rw [List.toList_toArray]
  exact name_right _
theorem aw_inv_right (name : ByteArray) (h : Dig.rightL name.data.toList = true) : pright undoB [name] [⟨4, 0, 0, 0, 0, []⟩] = true := by
  have hsz : name.size = 64 := by
    unfold Dig.rightL at h
    rw [Bool.and_eq_true, decide_eq_true_eq, toList_size] at h
    exact h.1
  have hfit : pfits undoB [name] [⟨4, 0, 0, 0, 0, []⟩] = true := by
    unfold pfits depsOk opsOk okAt
    simp only [List.length_cons, List.length_nil, Nat.zero_add, List.range_one, List.all_cons, List.all_nil, List.getD_cons_zero, h, List.getElem?_cons_zero, List.take_zero, decide_true, Bool.true_or, Bool.true_and, Bool.and_true]
    decide
  unfold pright
  rw [hfit, Bool.true_and, decide_eq_true_eq]
  have h1 := txt_len tambourB.data.toList (by show (7 : Nat) ≤ 65536; omega)
  have h2 := txt_len undoB.data.toList (by show (4 : Nat) ≤ 65536; omega)
  have h3 := tform_len 64 (by omega) [name] (fun x hx => by rw [List.mem_singleton] at hx; subst hx; omega)
  have h4 := oform_len ⟨4, 0, 0, 0, 0, []⟩ (by simp) (by simp) (by simp) (by simp)
  have h5 : tambourB.data.toList.length = 7 := rfl
  have h6 : undoB.data.toList.length = 4 := rfl
  unfold pbytes pform
  rw [lst_len, bytess, bytess, bytess, bytess, bytess, List.length_append, List.length_append, List.length_append, List.length_append, List.length_nil, lst_len, List.map_cons, List.map_nil, bytess, bytess, List.length_append, List.length_nil]
  simp only [List.length_cons, List.length_nil] at h3 h4
  omega
end Go.Proofs.YtbiioaggilaebaaGreatDoor.Pa
set_option linter.unusedVariables false
set_option linter.unusedSimpArgs false
namespace Go.Proofs.YtbiioaggilaebaaGreatDoor.Pa
open Go Go.RowKit Go.Proofs.YtbiioaggilaebaaGreatDoorW.PrintWords Go.Proofs.YtbiioaggilaebaaGreatDoor.B Go.Proofs.YtbiioaggilaebaaGreatDoor.Tm Go.Proofs.YtbiioaggilaebaaGreatDoor.Wi
def Lw5 (w : World) : Prop := Errs w ∧ Tab w ∧ 2 < w.heap.size
theorem Lw5.below {w w' : World} (h : Lw5 w) (hb : Below w.heap.size w w') : Lw5 w' := ⟨h.1.below hb, h.2.1.keep hb h.2.2, Nat.lt_of_lt_of_le h.2.2 hb.size⟩
set_option maxRecDepth 100000 in
set_option maxHeartbeats 8000000 in
theorem awake05_c (w : World) (hL : Lw5 w) :
    Calls Tryz.prog 8 #[] w fun ev w' => ev = .returned (.bool true) ∧ Below w.heap.size w w' := by
  obtain ⟨g, hg⟩ : ∃ g, g = w.heap.size := ⟨_, rfl⟩
  obtain ⟨w1, hw1⟩ : ∃ w1, w1 = w.alloc (.cells #[.string ⟨#[97]⟩] 9) := ⟨_, rfl⟩
  obtain ⟨w2, hw2⟩ : ∃ w2, w2 = w1.alloc (.cells #[.int .i64 1, .int .i64 (-1), .int .i64 0, .int .i64 (-1), .int .i64 1, .slice (some ⟨g, 0, none⟩) 1 1] 38) := ⟨_, rfl⟩
  obtain ⟨w3, hw3⟩ : ∃ w3, w3 = w2.alloc (.cells #[.string ⟨#[]⟩, .slice none 0 0, .slice (some ⟨g + 1, 0, none⟩) 1 1] 25) := ⟨_, rfl⟩
  have hs1 : w1.heap.size = g + 1 := by rw [hw1, hg]; simp
  have hs2 : w2.heap.size = g + 2 := by rw [hw2, size_alloc, hs1]
  have hb3 := Lib.hid (show Below w.heap.size w w3 by rw [hw3, hw2, hw1]; exact (((Below.refl _ _).alloc (Nat.le_refl _) _).alloc (by simp) _).alloc (by simp; omega) _)
  have h31 : w3.heap[g]? = some (.cells #[.string ⟨#[97]⟩] 9 (0, 0)) := by
    rw [hw3, heap_alloc_lt _ _ _ (by omega), hw2, heap_alloc_lt _ _ _ (by omega), hw1, hg]; exact heap_alloc_at _ _
  have h32 : w3.heap[g + 1]? = some (.cells #[.int .i64 1, .int .i64 (-1), .int .i64 0, .int .i64 (-1), .int .i64 1, .slice (some ⟨g, 0, none⟩) 1 1] 38 (0, 0)) := by
    rw [hw3, heap_alloc_lt _ _ _ (by omega), hw2, ← hs1]; exact heap_alloc_at _ _
  have h33 := Lib.hid (show w3.heap[g + 2]? = some (.cells #[.string ⟨#[]⟩, .slice none 0 0, .slice (some ⟨g + 1, 0, none⟩) 1 1] 25 (0, 0)) by rw [hw3, ← hs2]; exact heap_alloc_at _ _)
  have hT3 : TxAt w3 (some ⟨g, 0, none⟩) 1 [⟨#[97]⟩] := by
    obtain ⟨A, c, e, h1, h2, _⟩ := (strRow_one (Nat.le_refl g) h31).read
    cases e
    exact ⟨h2, h1, by simp, fun x hx => by rw [List.mem_singleton] at hx; subst hx; show 1 ≤ _; omega⟩
  have hO3 : OpsAt w3 (some ⟨g + 1, 0, none⟩) 1 [awOp] := by
    refine ⟨Nat.le_refl _, by simp, fun _ => ⟨g + 1, 0, rfl, fun j hj => ?_⟩⟩
    obtain rfl : j = 0 := by simpa using hj
    refine ⟨some ⟨g, 0, none⟩, 1, fun i hi => ?_, hT3⟩
    rw [cell_of h32, Nat.zero_mul, Nat.zero_add]
    rfl
  have hD3 : TxAt w3 none 0 [] := tx_nil _ _ _
  have hLw3 := hL.below hb3.out
  obtain ⟨s, hs⟩ : ∃ s : ByteArray, s = ⟨(pbytes ⟨#[]⟩ [] [awOp]).toArray⟩ := ⟨_, rfl⟩
  have hsl : s.data.toList = pbytes ⟨#[]⟩ [] [awOp] := by rw [hs]
  have CW := Lib.hid (show Calls Tryz.prog 15 #[.agg #[.string ⟨#[]⟩, .slice none 0 0, .slice (some ⟨g + 1, 0, none⟩) 1 1]] w3 fun e w' => e = .returned (.tuple #[.string s, .nilIface]) ∧ Below w3.heap.size w3 w' by
    have := pwrite_c ⟨#[]⟩ none 0 [] (some ⟨g + 1, 0, none⟩) 1 [awOp] w3 hD3 hO3 hLw3.2.1 hLw3.2.2
    unfold wrOf at this
    rw [aw_right, if_pos rfl, ← hs] at this
    exact this)
  have CR := Lib.hid (fun (W : World) (h : Lw5 W) => pread_ok ⟨#[]⟩ [] [awOp] aw_right s hsl W h.1 h.2.1 h.2.2)
  have CI := Lib.hid (fun (W : World) (h : Lw5 W) (hb : Below w3.heap.size w3 W) => show Calls Tryz.prog 10 #[.agg #[.string ⟨#[]⟩, .slice none 0 0, .slice (some ⟨g + 1, 0, none⟩) 1 1]] W (InvAns (pname ⟨#[]⟩ [] [awOp]) [] [awOp] W) from
    inverse_c ⟨#[]⟩ none 0 [] (some ⟨g + 1, 0, none⟩) 1 [awOp] W aw_right (tx_nil _ _ _) (hO3.below hb) h.2.1 h.2.2)
  have CM := Lib.hid (fun (W : World) (hb : Below w3.heap.size w3 W) => show Calls Tryz.prog 20 #[.agg #[.string ⟨#[]⟩, .slice none 0 0, .slice (some ⟨g + 1, 0, none⟩) 1 1]] W fun e w' => e = .returned (.int .i64 1) ∧ Below W.heap.size W w' by
    have h := pmade_c ⟨#[]⟩ none 0 [] (some ⟨g + 1, 0, none⟩) 1 [awOp] W (tx_nil _ _ _) (hO3.below hb)
    rw [show wmade 0 [awOp] = 1 from wmade_eq [awOp] 0 (by decide)] at h
    exact h)
  have hLwH := Lib.hid hLw3
  clear hL hT3 hO3 hD3 hLw3 h31 h32 hs hsl
  go_enter Tryz.func8, Tryz.ntmps8
  go_upto_region 2 with fail
  rw [← hw1, ← hg]
  try rw [hs1]
  rw [← hw2]
  try rw [hs2]
  rw [← hw3]
  replace hw1 := Lib.hid hw1
  replace hw2 := Lib.hid hw2
  replace hw3 := Lib.hid hw3
  replace hg := Lib.hid hg
  replace hs1 := Lib.hid hs1
  replace hs2 := Lib.hid hs2
  obtain ⟨p0, p1, p2, _, _⟩ := blk3' h33.out
  go_wp2_with fail
  refine (CW.out).mono ?_
  rintro ev w4 ⟨rfl, hb4⟩
  have y4 := Lib.hid hb4
  have hL4 := Lib.hid (hLwH.out.below hb4)
  clear hb4 p0 p1 p2
  go_upto_region 3 with fail
  go_wp2_with fail
  refine (CR.out w4 hL4.out).mono ?_
  rintro ev w5 ⟨D, dc, A, ac, rfl, hTx, hOx, hb5⟩
  have y5 := Lib.hid (y4.out.trans (hb5.mono y4.out.size))
  have hL5 := Lib.hid (hL4.out.below hb5)
  clear hTx hOx hb5
  simp only [List.length_nil, List.length_cons, Nat.zero_add]
  obtain ⟨q, hq⟩ : ∃ q, q = w5.heap.size := ⟨_, rfl⟩
  obtain ⟨w6, hw6⟩ : ∃ w6, w6 = w5.alloc (.cells #[.string ⟨#[]⟩, .slice D 0 dc, .slice A 1 ac] 25) := ⟨_, rfl⟩
  have hq6 := Lib.hid (show w6.heap[q]? = some (.cells #[.string ⟨#[]⟩, .slice D 0 dc, .slice A 1 ac] 25 (0, 0)) by rw [hw6, hq]; exact heap_alloc_at _ _)
  have hb56 := Lib.hid (show Below w5.heap.size w5 w6 by rw [hw6]; exact Wi.below_alloc _ _)
  have y6 := Lib.hid (y5.out.trans (hb56.out.mono y5.out.size))
  have hL6 := Lib.hid (hL5.out.below hb56.out)
  have h36 := Lib.hid ((y6.out.block _ (heap_lt h33.out)).trans h33.out)
  obtain ⟨p0, p1, p2, _, _⟩ := blk3' h36.out
  go_upto_region 4 with fail
  rw [← hw6, ← hq]
  replace hw6 := Lib.hid hw6
  replace hq := Lib.hid hq
  go_wp2_with fail
  refine (CI.out w6 hL6.out y6.out).mono ?_
  rintro ev w7 ⟨hb7, hans⟩
  have hir := aw_inv_right (pname ⟨#[]⟩ [] [awOp]) (pname_right _ _ _)
  rw [aw_ideps, aw_iops, hir] at hans
  rcases hans with ⟨_, E, ec, B, bc, rfl, hTE, hOB⟩ | ⟨h, _⟩
  · simp only [List.length_nil, List.length_cons, Nat.zero_add]
    obtain ⟨b, of, L, cl, rfl, c0, c1, c2, c3, c4, c5, _⟩ := hOB.get 0 _ rfl
    rw [Nat.zero_mul, Nat.add_zero] at c0
    have hcH := Lib.hid c0
    have y7 := Lib.hid (y6.out.trans (hb7.mono y6.out.size))
    have hq7 := Lib.hid ((hb7.block _ (heap_lt hq6.out)).trans hq6.out)
    clear hb7 hTE hOB hir c0 c1 c2 c3 c4 c5 p0 p1 p2
    obtain ⟨r, hr⟩ : ∃ r, r = w7.heap.size := ⟨_, rfl⟩
    obtain ⟨w8, hw8⟩ : ∃ w8, w8 = w7.alloc (.cells #[.string undoB, .slice E 1 ec, .slice (some ⟨b, of, none⟩) 1 bc] 25) := ⟨_, rfl⟩
    have hr8 := Lib.hid (show w8.heap[r]? = some (.cells #[.string undoB, .slice E 1 ec, .slice (some ⟨b, of, none⟩) 1 bc] 25 (0, 0)) by rw [hw8, hr]; exact heap_alloc_at _ _)
    have hb78 := Lib.hid (show Below w7.heap.size w7 w8 by rw [hw8]; exact Wi.below_alloc _ _)
    have y8 := Lib.hid (y7.out.trans (hb78.out.mono y7.out.size))
    have h38 := Lib.hid ((y8.out.block _ (heap_lt h33.out)).trans h33.out)
    have hq8 := Lib.hid ((hb78.out.block _ (heap_lt hq7.out)).trans hq7.out)
    have hc8 := Lib.hid (keepc hb78.out hcH.out)
    go_upto_region 5 with fail
    rw [← hw8, ← hr]
    replace hw8 := Lib.hid hw8
    replace hr := Lib.hid hr
    obtain ⟨p0, p1, p2, _, _⟩ := blk3' h38.out
    obtain ⟨q0, q1, q2, _, _⟩ := blk3' hq8.out
    go_wp2_with fail
    refine (CM.out w8 y8.out).mono ?_
    rintro ev w9 ⟨rfl, hb9⟩
    have y9 := Lib.hid (y8.out.trans (hb9.mono y8.out.size))
    have hr9 := Lib.hid ((hb9.block _ (heap_lt hr8.out)).trans hr8.out)
    have hc9 := Lib.hid (keepc hb9 hc8.out)
    clear hb9 p0 p1 p2 q0 q1 q2
    obtain ⟨q0, q1, q2, _, _⟩ := blk3' hr9.out
    have c0 := hc9.out
    go_wp2_with fail
    go_ret
    exact ⟨rfl, hb3.out.trans (y9.out.mono hb3.out.size)⟩
  · cases h
end Go.Proofs.YtbiioaggilaebaaGreatDoor.Pa
set_option linter.unusedVariables false
set_option linter.unusedSimpArgs false
namespace Go.Proofs.YtbiioaggilaebaaGreatDoor.Pa
open Go Go.RowKit Go.Proofs.YtbiioaggilaebaaGreatDoorW.PrintWords Go.Proofs.YtbiioaggilaebaaGreatDoor.B Go.Proofs.YtbiioaggilaebaaGreatDoor.Tm Go.Proofs.YtbiioaggilaebaaGreatDoor.Wi
open Go.Proofs.YtbiioaggilaebaaGreatDoor.Err (ErrT Code_nil Code_errno)
set_option maxRecDepth 100000 in
set_option maxHeartbeats 8000000 in
theorem writes05_walk (note : ByteArray) (D : Option Addr) (dc : Nat) (deps : List ByteArray) (A : Option Addr) (ac : Nat) (ops : List Op) (w : World) (hL : Lw5 w) (hE : ErrT w) (hD : TxAt w D dc deps) (hO : OpsAt w A ac ops) :
    Calls Tryz.prog 5 #[.agg #[.string note, .slice D deps.length dc, .slice A ops.length ac]] w fun e w' => e = .returned (.bool true) ∧ Below w.heap.size w w' := by
  obtain ⟨g, hg⟩ : ∃ g, g = w.heap.size := ⟨_, rfl⟩
  obtain ⟨w1, hw1⟩ : ∃ w1, w1 = w.alloc (.cells #[.string note, .slice D deps.length dc, .slice A ops.length ac] 25) := ⟨_, rfl⟩
  have hb1 := Lib.hid (show Below w.heap.size w w1 by rw [hw1]; exact Wi.below_alloc _ _)
  have hp1 := Lib.hid (show PatAt w1 g note D deps.length dc A ops.length ac by unfold PatAt; rw [hw1, hg]; exact heap_alloc_at _ _)
  have C0 := Lib.hid (awake05_c w1 (hL.below hb1.out))
  have CS := Lib.hid (fun (W : World) (h : Below w.heap.size w W) => small_c note D dc deps A ac ops W (hD.below h) (hO.below h))
  have CW := Lib.hid (fun (W : World) (h : Below w.heap.size w W) => pwrite_c note D dc deps A ac ops W (hD.below h) (hO.below h) (hL.below h).2.1 (hL.below h).2.2)
  have CT := Lib.hid (fun (W : World) (h : Below w.heap.size w W) => rwrite5_c note D dc deps A ac ops W (hD.below h) (hO.below h))
  have CN := Lib.hid (fun (W : World) (h : Below w.heap.size w W) => pname_c note D dc deps A ac ops W (hD.below h) (hO.below h) (hL.below h).2.1 (hL.below h).2.2)
  have CM := Lib.hid (fun (W : World) (h : Below w.heap.size w W) => rname5_c note D dc deps A ac ops W (hD.below h) (hO.below h))
  have CG := Lib.hid (fun (W : World) (h : Below w.heap.size w W) => pright_c note D dc deps A ac ops W (hD.below h) (hO.below h) (hL.below h).2.1 (hL.below h).2.2)
  have CP := Lib.hid (fun (W : World) (h : Below w.heap.size w W) => pmade_c note D dc deps A ac ops W (hD.below h) (hO.below h))
  have CQ := Lib.hid (fun (W : World) (h : Below w.heap.size w W) => rmade_c note D dc deps A ac ops W (hD.below h) (hO.below h))
  have CC := Lib.hid (fun (W : World) (h : Below w.heap.size w W) => Code_errno 10 W (hE.below h))
  have CR := Lib.hid (fun (hr : pright note deps ops = true) (W : World) (h : Below w.heap.size w W) => pread_ok note deps ops hr ⟨(pbytes note deps ops).toArray⟩ rfl W (hL.below h).1 (hL.below h).2.1 (hL.below h).2.2)
  have CE := Lib.hid (fun (D' : Option Addr) (dc' : Nat) (A' : Option Addr) (ac' : Nat) (W : World) (h : Below w.heap.size w W) (k1 : TxAt W D' dc' deps) (k2 : OpsAt W A' ac' ops) => psame5_c note D dc deps A ac ops D' dc' A' ac' W (hD.below h) (hO.below h) k1 k2)
  unfold wrOf at CW
  unfold rwrOf at CT
  unfold nmOf at CN
  unfold rnmOf at CM
  unfold RdAns at CR
  obtain ⟨sp, hsp⟩ : ∃ sp, sp = small deps ops := ⟨_, rfl⟩
  obtain ⟨pr, hpr⟩ : ∃ pr, pr = pright note deps ops := ⟨_, rfl⟩
  obtain ⟨md, hmd⟩ : ∃ md, md = wmade 0 ops := ⟨_, rfl⟩
  obtain ⟨s, hs⟩ : ∃ s : ByteArray, s = ⟨(pbytes note deps ops).toArray⟩ := ⟨_, rfl⟩
  obtain ⟨nm, hnm⟩ : ∃ nm, nm = pname note deps ops := ⟨_, rfl⟩
  obtain ⟨nd, hnd⟩ : ∃ nd, nd = deps.length := ⟨_, rfl⟩
  obtain ⟨no, hno⟩ : ∃ no, no = ops.length := ⟨_, rfl⟩
  simp only [← hsp, ← hpr, ← hmd, ← hs, ← hnm, ← hnd, ← hno] at CS CW CT CN CM CG CP CQ CR CE hw1 hp1 ⊢
  clear hsp hpr hmd hs hnm hnd hno hL hE hD hO
  obtain ⟨p0, p1, p2, _, _⟩ := blk3' hp1.out
  go_enter Tryz.func5, Tryz.ntmps5
  go_upto_region 1 with fail
  rw [← hw1, ← hg]
  replace hw1 := Lib.hid hw1
  replace hg := Lib.hid hg
  go_wp2_with fail
  refine (C0.out).mono ?_
  rintro ev w2 ⟨rfl, hb2⟩
  have y2 := Lib.hid (hb1.out.trans (hb2.mono hb1.out.size))
  have hp2 := Lib.hid ((hb2.block _ (heap_lt hp1.out)).trans hp1.out)
  clear hb2 p0 p1 p2 C0
  obtain ⟨p0, p1, p2, _, _⟩ := blk3' hp2.out
  go_wp2_with fail
  refine (CS.out w2 y2.out).mono ?_
  rintro ev w3 ⟨rfl, hb3⟩
  have y3 := Lib.hid (y2.out.trans (hb3.mono y2.out.size))
  have hp3 := Lib.hid ((hb3.block _ (heap_lt hp2.out)).trans hp2.out)
  clear hb3 p0 p1 p2
  cases sp with
  | false =>
    go_wp2_with fail
    go_ret
    exact ⟨rfl, y3.out⟩
  | true =>
    obtain ⟨p0, p1, p2, _, _⟩ := blk3' hp3.out
    cases pr with
    | false =>
      simp only [Bool.false_eq_true, if_false] at CW CT CN CM
      go_wp2_with fail
      refine (CW.out w3 y3.out).mono ?_
      rintro ev w4 ⟨rfl, hb4⟩
      have y4 := Lib.hid (y3.out.trans (hb4.mono y3.out.size))
      have hp4 := Lib.hid ((hb4.block _ (heap_lt hp3.out)).trans hp3.out)
      clear hb4 p0 p1 p2
      obtain ⟨p0, p1, p2, _, _⟩ := blk3' hp4.out
      go_wp2_with fail
      refine (CT.out w4 y4.out).mono ?_
      rintro ev w5 ⟨rfl, hb5⟩
      have y5 := Lib.hid (y4.out.trans (hb5.mono y4.out.size))
      have hp5 := Lib.hid ((hb5.block _ (heap_lt hp4.out)).trans hp4.out)
      clear hb5 p0 p1 p2
      obtain ⟨p0, p1, p2, _, _⟩ := blk3' hp5.out
      go_wp2_with fail
      refine (CN.out w5 y5.out).mono ?_
      rintro ev w6 ⟨rfl, hb6⟩
      have y6 := Lib.hid (y5.out.trans (hb6.mono y5.out.size))
      have hp6 := Lib.hid ((hb6.block _ (heap_lt hp5.out)).trans hp5.out)
      clear hb6 p0 p1 p2
      obtain ⟨p0, p1, p2, _, _⟩ := blk3' hp6.out
      go_wp2_with fail
      refine (CM.out w6 y6.out).mono ?_
      rintro ev w7 ⟨rfl, hb7⟩
      have y7 := Lib.hid (y6.out.trans (hb7.mono y6.out.size))
      have hp7 := Lib.hid ((hb7.block _ (heap_lt hp6.out)).trans hp6.out)
      clear hb7 p0 p1 p2
      obtain ⟨p0, p1, p2, _, _⟩ := blk3' hp7.out
      have q0 := Lat.cell p0
      have q1 := Lat.cell p1
      have q2 := Lat.cell p2
      clear p0 p1 p2
      have lw := Lib.hid (fun (X : Lat w7) => y7.out.trans (X.below.mono y7.out.size))
      have LC := Lib.hid (fun (X : Lat w7) => CC.out X.val (lw.out X))
      have LG := Lib.hid (fun (X : Lat w7) => CG.out X.val (lw.out X))
      have LP := Lib.hid (fun (X : Lat w7) => CP.out X.val (lw.out X))
      have LQ := Lib.hid (fun (X : Lat w7) => CQ.out X.val (lw.out X))
      go_upto_region 9 with fail
      refine wp_region_lat (by kernel_rfl) (by kernel_rfl) ?_
      repeat (go_big_quiet_step (fail))
      go_big_quiet_step ((go_at_call 18; exact lat_of (LC.out _)))
      repeat (go_big_quiet_step (fail))
      go_big_quiet_step ((go_at_call 18; exact lat_of (LC.out _)))
      repeat (go_big_quiet_step (fail))
      go_big_quiet_step ((go_at_call 19; exact lat_of (LG.out _)))
      repeat (go_big_quiet_step (fail))
      go_big_quiet_step ((go_at_call 20; exact lat_of (LP.out _)))
      repeat (go_big_quiet_step (fail))
      go_big_quiet_step ((go_at_call 21; exact lat_of (LQ.out _)))
      repeat (go_big_quiet_step (fail))
      refine wpQuiet_nil ?_
      intro _ hw'
      obtain ⟨xl, hw''⟩ := hw'
      subst hw''
      have hbx := Lib.hid (lw.out xl)
      clear q0 q1 q2
      go_wp2_with fail
      go_ret
      exact ⟨rfl, hbx.out⟩
    | true =>
      simp only [if_true] at CW CT CN CM
      replace CR := Lib.hid (CR.out rfl)
      go_wp2_with fail
      refine (CW.out w3 y3.out).mono ?_
      rintro ev w4 ⟨rfl, hb4⟩
      have y4 := Lib.hid (y3.out.trans (hb4.mono y3.out.size))
      have hp4 := Lib.hid ((hb4.block _ (heap_lt hp3.out)).trans hp3.out)
      clear hb4 p0 p1 p2
      obtain ⟨p0, p1, p2, _, _⟩ := blk3' hp4.out
      go_wp2_with fail
      refine (CT.out w4 y4.out).mono ?_
      rintro ev w5 ⟨rfl, hb5⟩
      have y5 := Lib.hid (y4.out.trans (hb5.mono y4.out.size))
      have hp5 := Lib.hid ((hb5.block _ (heap_lt hp4.out)).trans hp4.out)
      clear hb5 p0 p1 p2
      obtain ⟨p0, p1, p2, _, _⟩ := blk3' hp5.out
      go_wp2_with fail
      refine (CN.out w5 y5.out).mono ?_
      rintro ev w6 ⟨rfl, hb6⟩
      have y6 := Lib.hid (y5.out.trans (hb6.mono y5.out.size))
      have hp6 := Lib.hid ((hb6.block _ (heap_lt hp5.out)).trans hp5.out)
      clear hb6 p0 p1 p2
      obtain ⟨p0, p1, p2, _, _⟩ := blk3' hp6.out
      go_wp2_with fail
      refine (CM.out w6 y6.out).mono ?_
      rintro ev w7 ⟨rfl, hb7⟩
      have y7 := Lib.hid (y6.out.trans (hb7.mono y6.out.size))
      have hp7 := Lib.hid ((hb7.block _ (heap_lt hp6.out)).trans hp6.out)
      clear hb7 p0 p1 p2
      obtain ⟨p0, p1, p2, _, _⟩ := blk3' hp7.out
      have q0 := Lat.cell p0
      have q1 := Lat.cell p1
      have q2 := Lat.cell p2
      clear p0 p1 p2
      have lw := Lib.hid (fun (X : Lat w7) => y7.out.trans (X.below.mono y7.out.size))
      have LG := Lib.hid (fun (X : Lat w7) => CG.out X.val (lw.out X))
      have LP := Lib.hid (fun (X : Lat w7) => CP.out X.val (lw.out X))
      have LQ := Lib.hid (fun (X : Lat w7) => CQ.out X.val (lw.out X))
      go_upto_region 9 with fail
      refine wp_region_lat (by kernel_rfl) (by kernel_rfl) ?_
      repeat (go_big_quiet_step (fail))
      go_big_quiet_step ((go_at_call 18; exact lat_same (Code_nil _)))
      repeat (go_big_quiet_step (fail))
      go_big_quiet_step ((go_at_call 18; exact lat_same (Code_nil _)))
      repeat (go_big_quiet_step (fail))
      go_big_quiet_step ((go_at_call 19; exact lat_of (LG.out _)))
      repeat (go_big_quiet_step (fail))
      go_big_quiet_step ((go_at_call 20; exact lat_of (LP.out _)))
      repeat (go_big_quiet_step (fail))
      go_big_quiet_step ((go_at_call 21; exact lat_of (LQ.out _)))
      repeat (go_big_quiet_step (fail))
      refine wpQuiet_nil ?_
      intro _ hw'
      obtain ⟨xl, hw''⟩ := hw'
      subst hw''
      have hbx := Lib.hid (lw.out xl)
      have hpx := Lib.hid ((xl.below.block _ (heap_lt hp7.out)).trans hp7.out)
      obtain ⟨w8, hw8⟩ : ∃ w8, w8 = xl.val := ⟨_, rfl⟩
      rw [← hw8] at hbx hpx ⊢
      replace hw8 := Lib.hid hw8
      clear q0 q1 q2
      go_upto_region 13 with fail
      go_wp2_with fail
      refine (CR.out w8 hbx.out).mono ?_
      rintro ev w9 ⟨D', dc', A', ac', rfl, hT9, hO9, hb9⟩
      have y9 := Lib.hid (hbx.out.trans (hb9.mono hbx.out.size))
      have hp9 := Lib.hid ((hb9.block _ (heap_lt hpx.out)).trans hpx.out)
      have hT9H := Lib.hid hT9
      have hO9H := Lib.hid hO9
      clear hb9 hT9 hO9
      obtain ⟨q, hq⟩ : ∃ q, q = w9.heap.size := ⟨_, rfl⟩
      obtain ⟨w10, hw10⟩ : ∃ w10, w10 = w9.alloc (.cells #[.string note, .slice D' nd dc', .slice A' no ac'] 25) := ⟨_, rfl⟩
      have hq10 := Lib.hid (show w10.heap[q]? = some (.cells #[.string note, .slice D' nd dc', .slice A' no ac'] 25 (0, 0)) by rw [hw10, hq]; exact heap_alloc_at _ _)
      have hb10 := Lib.hid (show Below w9.heap.size w9 w10 by rw [hw10]; exact Wi.below_alloc _ _)
      have y10 := Lib.hid (y9.out.trans (hb10.out.mono y9.out.size))
      have hp10 := Lib.hid ((hb10.out.block _ (heap_lt hp9.out)).trans hp9.out)
      have CE2 := Lib.hid (CE.out D' dc' A' ac' w10 y10.out (hT9H.out.below hb10.out) (hO9H.out.below hb10.out))
      obtain ⟨p0, p1, p2, _, _⟩ := blk3' hp10.out
      obtain ⟨q0, q1, q2, _, _⟩ := blk3' hq10.out
      go_upto_region 14 with fail
      rw [← hw10, ← hq]
      replace hw10 := Lib.hid hw10
      replace hq := Lib.hid hq
      go_wp2_with fail
      refine (CE2.out).mono ?_
      rintro ev w11 ⟨rfl, hb11⟩
      have y11 := Lib.hid (y10.out.trans (hb11.mono y10.out.size))
      clear hb11 p0 p1 p2 q0 q1 q2
      go_wp2_with fail
      go_ret
      exact ⟨rfl, y11.out⟩
end Go.Proofs.YtbiioaggilaebaaGreatDoor.Pa
set_option linter.unusedVariables false
set_option linter.unusedSimpArgs false
namespace Go.Proofs.YtbiioaggilaebaaGreatDoor.Pa
open Go Go.RowKit Go.WideShapes Go.ChangeShapes Go.Proofs.YtbiioaggilaebaaGreatDoorW.PrintWords Go.Proofs.YtbiioaggilaebaaGreatDoor.B Go.Proofs.YtbiioaggilaebaaGreatDoor.Tm Go.Proofs.YtbiioaggilaebaaGreatDoor.Wi
theorem at_field {l : List Value} {k n : Nat} {x : Value} (h : (l.drop k).take n = [x]) : l[k]? = some x := by
  have e := congrArg (fun L => L[0]?) h
  simp only [List.getElem?_cons_zero, List.getElem?_take, List.getElem?_drop, Nat.add_zero] at e
  split at e
  · exact e
  · cases e
theorem C_of_rsl {w : World} {A : Option Addr} {n c : Nat} {xs : List ByteArray} (h : Rd.RSl 1 Rd.RStr w [.slice A n c] xs) : Kd.C Kd.string w A n xs ∧ n ≤ c ∧ ∀ x ∈ xs, x.size ≤ 140737488351232 := by
  obtain ⟨h1, h2, h3, h4⟩ := Rd.sl_at h
  subst h1
  have hl : xs.length ≤ 9223372036854775807 := by omega
  refine ⟨⟨rfl, hl, fun h0 => ?_⟩, h2, fun x hx => ?_⟩
  · obtain ⟨b, off, rfl, hc⟩ := h4 h0
    refine ⟨_, rfl, fun j p hj => ?_⟩
    obtain ⟨hjl, hjp⟩ := List.getElem?_eq_some_iff.1 hj
    obtain ⟨es, e1, e2, e3⟩ := hc j hjl
    rw [hjp] at e3
    refine ⟨es, e1, e3.1, fun i u hu => ?_⟩
    have hi := (List.getElem?_eq_some_iff.1 hu).1
    rw [add_off, show off + (j * Kd.string.sz + i) = off + j * 1 + i from by show off + (j * 1 + i) = _; omega, e2 i (by omega)]
    exact hu
  · obtain ⟨i, hi, rfl⟩ := List.mem_iff_getElem.1 hx
    obtain ⟨b, off, _, hc⟩ := h4 (by omega)
    obtain ⟨es, _, _, e3⟩ := hc i hi
    exact e3.2
def RRef : Rd.Rel (Int × Int) := fun _ cs x => cs = [.int .i64 x.1, .int .i64 x.2]
def ROp : Rd.Rel Op := fun w cs x => ∃ L c, cs = (opCells x L c).toList ∧ TxAt w L c x.ls
theorem tx_of_rsl {w : World} {A : Option Addr} {n c : Nat} {xs : List ByteArray} (h : Rd.RSl 1 Rd.RStr w [.slice A n c] xs) : n = xs.length ∧ TxAt w A c xs := by
  have h' := h
  obtain ⟨A', c', e, h1, h2, _⟩ := h'
  cases e
  obtain ⟨k1, k2, k3⟩ := C_of_rsl h
  exact ⟨rfl, k1, k2, by omega, k3⟩
set_option maxRecDepth 100000 in
theorem opens_ref {H : Type} {enc : TypeId × Value → H} (w : World) : Rd.Opens enc Tryz.prog w 36 RRef := by
  intro fuel cs y h hw
  obtain ⟨hl, S⟩ := Rd.struct_fields Tryz.underlying36 h hw
  have oI : Rd.Opens enc Tryz.prog w 3 (Rd.RInt .i64) := Rd.opens_int Tryz.underlying3
  obtain ⟨v0, e0, _⟩ := S Int 0 _ (Rd.RInt .i64) rfl oI
  obtain ⟨v1, e1, _⟩ := S Int 1 _ (Rd.RInt .i64) rfl oI
  have f0 : cs[0]? = _ := at_field e0
  have f1 : cs[1]? = _ := at_field e1
  have h2 : cs.length = 2 := hl.trans (by kernel_rfl)
  refine ⟨(v0, v1), ?_⟩
  match cs, h2 with
  | [c0, c1], _ =>
    simp only [List.getElem?_cons_zero, List.getElem?_cons_succ, Option.some.injEq] at f0 f1
    subst f0 f1
    rfl
set_option maxRecDepth 100000 in
theorem opens_op {H : Type} {enc : TypeId × Value → H} (w : World) : Rd.Opens enc Tryz.prog w 38 ROp := by
  intro fuel cs y h hw
  obtain ⟨hl, S⟩ := Rd.struct_fields Tryz.underlying38 h hw
  have oI : Rd.Opens enc Tryz.prog w 3 (Rd.RInt .i64) := Rd.opens_int Tryz.underlying3
  have oL : Rd.Opens enc Tryz.prog w 22 (Rd.RSl 1 Rd.RStr) := Rd.opens_sl (size := 1) Tryz.underlying22 (by kernel_rfl) (by omega) (of_decide_eq_true (by kernel_rfl)) (Rd.opens_str Tryz.underlying9)
  obtain ⟨v0, e0, _⟩ := S Int 0 _ (Rd.RInt .i64) rfl oI
  obtain ⟨va, ea⟩ := S (Int × Int) 1 _ RRef rfl (opens_ref w)
  obtain ⟨vb, eb⟩ := S (Int × Int) 2 _ RRef rfl (opens_ref w)
  obtain ⟨l, h3⟩ := S (List ByteArray) 3 _ (Rd.RSl 1 Rd.RStr) rfl oL
  have h3' := h3
  obtain ⟨A, c, e3, _⟩ := h3'
  rw [e3] at h3
  obtain ⟨_, hT⟩ := tx_of_rsl h3
  unfold RRef at ea eb
  have h6 : cs.length = 6 := hl.trans (by kernel_rfl)
  have f0 : cs[0]? = _ := at_field e0
  have k2 : Tryz.prog.cellsOf 36 = 2 := by kernel_rfl
  have f5 : cs[5]? = _ := at_field e3
  refine ⟨⟨v0, va.1, va.2, vb.1, vb.2, l⟩, A, c, ?_, hT⟩
  match cs, h6 with
  | [c0, c1, c2, c3, c4, c5], _ =>
    have ea' : ([c0, c1, c2, c3, c4, c5].drop 1).take (Tryz.prog.cellsOf 36) = [.int .i64 va.1, .int .i64 va.2] := ea
    have eb' : ([c0, c1, c2, c3, c4, c5].drop 3).take (Tryz.prog.cellsOf 36) = [.int .i64 vb.1, .int .i64 vb.2] := eb
    rw [k2] at ea' eb'
    simp only [List.drop_succ_cons, List.drop_zero, List.take_succ_cons, List.take_zero, List.cons.injEq, and_true] at ea' eb'
    simp only [List.getElem?_cons_zero, List.getElem?_cons_succ, Option.some.injEq] at f0 f5
    obtain ⟨rfl, rfl⟩ := ea'
    obtain ⟨rfl, rfl⟩ := eb'
    subst f0 f5
    rfl
theorem ops_of_rsl {w : World} {A : Option Addr} {n c : Nat} {xs : List Op} (h : Rd.RSl 6 ROp w [.slice A n c] xs) : n = xs.length ∧ OpsAt w A c xs := by
  obtain ⟨A', c', e, h1, h2, h3⟩ := h
  cases e
  refine ⟨rfl, h1, by omega, fun h0 => ?_⟩
  obtain ⟨b, off, rfl, hc⟩ := h3 h0
  refine ⟨b, off, rfl, fun j hj => ?_⟩
  obtain ⟨es, e1, e2, L, cl, e3, hT⟩ := hc j hj
  refine ⟨L, cl, fun i hi => ?_, hT⟩
  rw [e2 i hi, e3, Array.getElem?_toList]
set_option maxRecDepth 100000 in
theorem patch_open {H : Type} {enc : TypeId × Value → H} (v : Value) {d : DataW H} {ps : List MemPlace} (w : World) {base : Nat}
    (hv : Value.okWide Tryz.prog w .any base 25 v) (h : DataW.Trod enc Tryz.prog w 0 (fun _ => true) true 25 v d ps) (hw : ∀ n ∈ d.weights Tryz.prog 25, n ≤ reachBytes) :
    ∃ note D dc deps A ac ops, v = .agg #[.string note, .slice D deps.length dc, .slice A ops.length ac] ∧ TxAt w D dc deps ∧ OpsAt w A ac ops ∧ note.size ≤ 140737488351232 := by
  obtain ⟨cs, rfl, hsz⟩ := okWide_struct Tryz.underlying25 hv
  obtain ⟨fuel, hf⟩ := h
  obtain ⟨hl, S⟩ := Rd.struct_fields Tryz.underlying25 hf hw
  have oL : Rd.Opens enc Tryz.prog w 22 (Rd.RSl 1 Rd.RStr) := Rd.opens_sl (size := 1) Tryz.underlying22 (by kernel_rfl) (by omega) (of_decide_eq_true (by kernel_rfl)) (Rd.opens_str Tryz.underlying9)
  have oO : Rd.Opens enc Tryz.prog w 23 (Rd.RSl 6 ROp) := Rd.opens_sl (size := 6) Tryz.underlying23 (by kernel_rfl) (by omega) (of_decide_eq_true (by kernel_rfl)) (opens_op w)
  have oS : Rd.Opens enc Tryz.prog w 9 Rd.RStr := Rd.opens_str Tryz.underlying9
  obtain ⟨note, e0, hnote⟩ := S ByteArray 0 _ Rd.RStr rfl oS
  obtain ⟨deps, h1⟩ := S (List ByteArray) 1 _ (Rd.RSl 1 Rd.RStr) rfl oL
  obtain ⟨ops, h2⟩ := S (List Op) 2 _ (Rd.RSl 6 ROp) rfl oO
  have h1' := h1
  obtain ⟨D, dc, e1, _⟩ := h1'
  rw [e1] at h1
  obtain ⟨_, hD⟩ := tx_of_rsl h1
  have h2' := h2
  obtain ⟨A, ac, e2, _⟩ := h2'
  rw [e2] at h2
  obtain ⟨_, hO⟩ := ops_of_rsl h2
  have hcs : (Value.agg cs).cells = cs := rfl
  rw [hcs] at e0 e1 e2
  have f0 : cs.toList[0]? = _ := at_field e0
  have f1 : cs.toList[1]? = _ := at_field e1
  have f2 : cs.toList[2]? = _ := at_field e2
  have h3 : cs.size = 3 := hsz.trans (by kernel_rfl)
  refine ⟨note, D, dc, deps, A, ac, ops, ?_, hD, hO, hnote⟩
  obtain ⟨L⟩ := cs
  match L, h3 with
  | [c0, c1, c2], _ =>
    simp only [List.getElem?_cons_zero, List.getElem?_cons_succ, Option.some.injEq] at f0 f1 f2
    subst f0 f1 f2
    rfl
theorem trod_ifaceCell {H : Type} {enc : TypeId × Value → H} {P : Program} {w : World} {base : Nat} {sp : Nat → Bool} {held : Bool} {fuel : Nat} {t : TypeId} {ms : Array (String × TypeId)} {cs : List Value} {y : DataW H × List MemPlace}
    (ht : P.underlying t = some (.interface ms)) (h : DataW.trod enc P w base sp held fuel t cs = some y) : ∃ ev, cs = [ev] ∧ (ev = .nilIface ∨ ∃ te pe, ev = .iface te pe) := by
  cases fuel with
  | zero => simp [DataW.trod] at h
  | succ fuel =>
    simp only [DataW.trod, ht] at h
    split at h <;> first | (cases h; done) | skip
    all_goals first | exact ⟨_, rfl, .inl rfl⟩ | exact ⟨_, rfl, .inr ⟨_, _, rfl⟩⟩ | (simp_all; done)
theorem err_of {W : World} {n : String} {d : DataW Unit} {r : List (String × DataW Unit)} {g : Nat} {ms : Array (String × TypeId)} (h : laidMet Tryz.prog ((n, d) :: r) W) (hg : Tryz.prog.globalNamed n = some g) (ht : (Tryz.prog.globals[g]?).map (·.type) = some 29) (hu : Tryz.prog.underlying 29 = some (.interface ms)) :
    ∃ ev, W.cell? ⟨g, 0, none⟩ = some ev ∧ (ev = .nilIface ∨ ∃ te pe, ev = .iface te pe) := by
  obtain ⟨ps, ⟨g', t', cs, fuel, p, q, hg', ht', hvar, hd, _, _⟩, _⟩ := h
  obtain rfl := Option.some.inj (hg.symm.trans hg')
  obtain rfl := Option.some.inj (ht.symm.trans ht')
  obtain ⟨ev, e, hev⟩ := trod_ifaceCell hu hd
  refine ⟨ev, ?_, hev⟩
  have := World.var?_cell hg hvar 0
  rw [this, ← Array.getElem?_toList, e]
  rfl
theorem lw5_of {W : World} (h : laidMet Tryz.prog Rows.patchCommutesRow.laid W) : Lw5 W := by
  have h0 := h.tail.tail
  have ht : Tab W := Lib.tabIs_of_head (g := 2) gtab (by kernel_rfl) Tryz.underlying251 Tryz.underlying137 (by kernel_rfl) (by kernel_rfl) h0
  have h1 := h0.tail.tail
  have eR := err_of h1 (g := 4) (by kernel_rfl) (by kernel_rfl) Tryz.underlying29
  have eS := err_of h1.tail (g := 3) (by kernel_rfl) (by kernel_rfl) Tryz.underlying29
  refine ⟨⟨eS, eR⟩, ht, ?_⟩
  have hc := Lib.TabIs.cell ht gtab 0 (by decide)
  exact World.block_lt_of_cell? _ _ hc
theorem lw5_handle {W : World} {l : List (String × DataW Unit)} (hl : (l.filter fun x => x.2.handleName?.isNone) = Rows.patchCommutesRow.laid) (h : laidMetH Tryz.prog l W) : Lw5 W := by
  refine lw5_of ?_
  rw [← hl]
  unfold laidMetH at h
  generalize hfl : (l.filter fun x => x.2.handleName?.isSome) = fl at h
  cases fl with
  | nil =>
    rw [List.filter_eq_self.2 fun x hx => ?_]
    · exact h
    · have := List.filter_eq_nil_iff.1 hfl x hx
      simpa using this
  | cons a r => exact h.1
end Go.Proofs.YtbiioaggilaebaaGreatDoor.Pa
set_option linter.unusedVariables false
set_option linter.unusedSimpArgs false
namespace Go.Proofs.YtbiioaggilaebaaGreatDoor.Pa
open Go Go.RowKit Go.WideShapes Go.ChangeShapes Go.Proofs.YtbiioaggilaebaaGreatDoor.B Go.Proofs.YtbiioaggilaebaaGreatDoor.Tm Go.Proofs.YtbiioaggilaebaaGreatDoor.Wi
set_option maxRecDepth 100000 in
theorem writes05_any {H : Type} {enc : TypeId × Value → H} (v : Value) {d : DataW H} {ps : List MemPlace} (w : World) {base : Nat} (hL : Lw5 w) (hE : Err.ErrT w)
    (hv : Value.okWide Tryz.prog w .any base 25 v) (h : DataW.Trod enc Tryz.prog w 0 (fun _ => true) true 25 v d ps) (hw : ∀ n ∈ d.weights Tryz.prog 25, n ≤ reachBytes) :
    Calls Tryz.prog 5 #[v] w fun e w' => e = .returned (.bool true) ∧ Below w.heap.size w w' := by
  obtain ⟨note, D, dc, deps, A, ac, ops, rfl, hD, hO, _⟩ := patch_open v w hv h hw
  exact writes05_walk note D dc deps A ac ops w hL hE hD hO
end Go.Proofs.YtbiioaggilaebaaGreatDoor.Pa
