/- What LawPatchInverse lean on, part za of 29: the texts PcL, PcM, PiC. -/
import Derived.Test.YtbiioaggilaebaaGreatDoorTX0
import Derived.Test.YtbiioaggilaebaaGreatDoorTXq
import Derived.Test.YtbiioaggilaebaaGreatDoorTXx
import Derived.Test.YtbiioaggilaebaaGreatDoorTXy
import Derived.Test.YtbiioaggilaebaaGreatDoorTXz
set_option linter.all false
set_option maxRecDepth 100000
set_option maxHeartbeats 16000000
namespace Go.Proofs.YtbiioaggilaebaaGreatDoor.Pa
open Go Go.RowKit B Tm Wi
def awOp : Op := ⟨1, -1, 0, -1, 1, [⟨#[97]⟩]⟩
theorem aw_right : pright ⟨#[]⟩ [] [awOp] = true := by decide +kernel
theorem aw_bops : bops [awOp] = [⟨4, -2, 0, 0, 0, []⟩] := rfl
theorem aw_ideps (name : ByteArray) : ideps name [] [awOp] = [name] := by
 unfold ideps
 rw [aw_bops]
 have h : (name :: ([⟨4, -2, 0, 0, 0, []⟩] : List Op).flatMap (opd [])) = [name] := rfl
 rw [h]
 have h2 : sortL (toL [name]) = toL [name] := by unfold sortL toL; simp
 rw [h2, Lib.compact_all (toL [name]) (fun j hj => by
  have : j = 0 := by simp [toL] at hj; omega
  subst this
  simp [Lib.keeps]), ofL_toL]
theorem aw_iops (name : ByteArray) : iops name [] [awOp] = [⟨4, 0, 0, 0, 0, []⟩] := by
 unfold iops
 rw [aw_ideps, aw_bops]
 unfold tnOp tn place placeF
 simp [setA]
theorem name_right (s : List UInt8) : Dig.rightL (Sha.nameL s) = true := by
 unfold Dig.rightL Sha.nameL
 rw [Dig.rawL_hexL, Sha.hexL_len, Sha.shaL_len]
 rfl
theorem pname_right (note : ByteArray) (deps : List ByteArray) (ops : List Op) : Dig.rightL (pname note deps ops).data.toList = true := by
 unfold pname
 rw [List.toList_toArray]
 exact name_right _
theorem aw_inv_right (name : ByteArray) (h : Dig.rightL name.data.toList = true) : pright undoB [name] [⟨4, 0, 0, 0, 0, []⟩] = true := by
 have hsz : name.size = 64 := by
  unfold Dig.rightL at h
  rw [Bool.and_eq_true, decide_eq_true_eq, toList_size] at h
  exact h.1
 have hfit : pfits undoB [name] [⟨4, 0, 0, 0, 0, []⟩] = true := by
  unfold pfits depsOk opsOk okAt
  simp only [List.length_cons, List.length_nil, Nat.zero_add, List.range_one, List.all_cons, List.all_nil, List.getD_cons_zero, h, List.getElem?_cons_zero, List.take_zero, decide_true, Bool.true_or, Bool.true_and, Bool.and_true]
  decide
 unfold pright
 rw [hfit, Bool.true_and, decide_eq_true_eq]
 have h1 := txt_len tambourB.data.toList (by show (7 : Nat) <= 65536; omega)
 have h2 := txt_len undoB.data.toList (by show (4 : Nat) <= 65536; omega)
 have h3 := tform_len 64 (by omega) [name] (fun x hx => by rw [List.mem_singleton] at hx; subst hx; omega)
 have h4 := oform_len ⟨4, 0, 0, 0, 0, []⟩ (by simp) (by simp) (by simp) (by simp)
 have h5 : tambourB.data.toList.length = 7 := rfl
 have h6 : undoB.data.toList.length = 4 := rfl
 unfold pbytes pform
 rw [lst_len, bytess, bytess, bytess, bytess, bytess, List.length_append, List.length_append, List.length_append, List.length_append, List.length_nil, lst_len, List.map_cons, List.map_nil, bytess, bytess, List.length_append, List.length_nil]
 simp only [List.length_cons, List.length_nil] at h3 h4
 omega
end Go.Proofs.YtbiioaggilaebaaGreatDoor.Pa
namespace Go.Proofs.YtbiioaggilaebaaGreatDoor.Pa
open Go Go.RowKit YtbiioaggilaebaaGreatDoorW.PrintWords B Tm Wi
def Lw5 (w : World) : Prop := Errs w /\ Tab w /\ 2 < w.heap.size
theorem Lw5.below {w w' : World} (h : Lw5 w) (hb : Below w.heap.size w w') : Lw5 w' := ⟨h.1.below hb, h.2.1.keep hb h.2.2, Nat.lt_of_lt_of_le h.2.2 hb.size⟩
theorem awake05_c (w : World) (hL : Lw5 w) :
 Calls Tryz.prog 8 #[] w fun ev w' => ev = .returned (.bool true) /\ Below w.heap.size w w' := by
 obtain ⟨g, hg⟩ : ∃ g, g = w.heap.size := ⟨_, rfl⟩
 obtain ⟨w1, hw1⟩ : ∃ w1, w1 = w.alloc (.cells #[.string ⟨#[97]⟩] 9) := ⟨_, rfl⟩
 obtain ⟨w2, hw2⟩ : ∃ w2, w2 = w1.alloc (.cells #[.int .i64 1, .int .i64 (-1), .int .i64 0, .int .i64 (-1), .int .i64 1, .slice (some ⟨g, 0, none⟩) 1 1] 38) := ⟨_, rfl⟩
 obtain ⟨w3, hw3⟩ : ∃ w3, w3 = w2.alloc (.cells #[.string ⟨#[]⟩, .slice none 0 0, .slice (some ⟨g + 1, 0, none⟩) 1 1] 25) := ⟨_, rfl⟩
 have hs1 : w1.heap.size = g + 1 := by rw [hw1, hg]; simp
 have hs2 : w2.heap.size = g + 2 := by rw [hw2, size_alloc, hs1]
 have hb3 := lh (show Below w.heap.size w w3 by rw [hw3, hw2, hw1]; exact (((Below.refl _ _).alloc (Nat.le_refl _) _).alloc (by simp) _).alloc (by simp; omega) _)
 have h31 : w3.heap[g]? = some (.cells #[.string ⟨#[97]⟩] 9 (0, 0)) := by
  rw [hw3, heap_alloc_lt _ _ _ (by omega), hw2, heap_alloc_lt _ _ _ (by omega), hw1, hg]; exact heap_alloc_at _ _
 have h32 : w3.heap[g + 1]? = some (.cells #[.int .i64 1, .int .i64 (-1), .int .i64 0, .int .i64 (-1), .int .i64 1, .slice (some ⟨g, 0, none⟩) 1 1] 38 (0, 0)) := by
  rw [hw3, heap_alloc_lt _ _ _ (by omega), hw2, <- hs1]; exact heap_alloc_at _ _
 have h33 := lh (show w3.heap[g + 2]? = some (.cells #[.string ⟨#[]⟩, .slice none 0 0, .slice (some ⟨g + 1, 0, none⟩) 1 1] 25 (0, 0)) by rw [hw3, <- hs2]; exact heap_alloc_at _ _)
 have hT3 : TxAt w3 (some ⟨g, 0, none⟩) 1 [⟨#[97]⟩] := by
  obtain ⟨A, c, e, h1, h2, _⟩ := (strRow_one (Nat.le_refl g) h31).read
  cases e
  exact ⟨h2, h1, by simp, fun x hx => by rw [List.mem_singleton] at hx; subst hx; show 1 <= _; omega⟩
 have hO3 : OpsAt w3 (some ⟨g + 1, 0, none⟩) 1 [awOp] := by
  refine ⟨Nat.le_refl _, by simp, fun _ => ⟨g + 1, 0, rfl, fun j hj => ?_⟩⟩
  obtain rfl : j = 0 := by simpa using hj
  refine ⟨some ⟨g, 0, none⟩, 1, fun i hi => ?_, hT3⟩
  rw [cell_of h32, Nat.zero_mul, Nat.zero_add]
  rfl
 have hD3 : TxAt w3 none 0 [] := tx_nil _ _ _
 have hLw3 := hL.below hb3.out
 obtain ⟨s, hs⟩ : ∃ s : ByteArray, s = ⟨(pbytes ⟨#[]⟩ [] [awOp]).toArray⟩ := ⟨_, rfl⟩
 have hsl : s.data.toList = pbytes ⟨#[]⟩ [] [awOp] := by rw [hs]
 have CW := lh (show Calls Tryz.prog 15 #[.agg #[.string ⟨#[]⟩, .slice none 0 0, .slice (some ⟨g + 1, 0, none⟩) 1 1]] w3 fun e w' => e = .returned (.tuple #[.string s, .nilIface]) /\ Below w3.heap.size w3 w' by
  have := pwrite_c ⟨#[]⟩ none 0 [] (some ⟨g + 1, 0, none⟩) 1 [awOp] w3 hD3 hO3 hLw3.2.1 hLw3.2.2
  unfold wrOf at this
  rw [aw_right, if_pos rfl, <- hs] at this
  exact this)
 have CR := lh (fun (W : World) (h : Lw5 W) => pread_ok ⟨#[]⟩ [] [awOp] aw_right s hsl W h.1 h.2.1 h.2.2)
 have CI := lh (fun (W : World) (h : Lw5 W) (hb : Below w3.heap.size w3 W) => show Calls Tryz.prog 10 #[.agg #[.string ⟨#[]⟩, .slice none 0 0, .slice (some ⟨g + 1, 0, none⟩) 1 1]] W (InvAns (pname ⟨#[]⟩ [] [awOp]) [] [awOp] W) from
  inverse_c ⟨#[]⟩ none 0 [] (some ⟨g + 1, 0, none⟩) 1 [awOp] W aw_right (tx_nil _ _ _) (hO3.below hb) h.2.1 h.2.2)
 have CM := lh (fun (W : World) (hb : Below w3.heap.size w3 W) => show Calls Tryz.prog 20 #[.agg #[.string ⟨#[]⟩, .slice none 0 0, .slice (some ⟨g + 1, 0, none⟩) 1 1]] W fun e w' => e = .returned (.int .i64 1) /\ Below W.heap.size W w' by
  have h := pmade_c ⟨#[]⟩ none 0 [] (some ⟨g + 1, 0, none⟩) 1 [awOp] W (tx_nil _ _ _) (hO3.below hb)
  rw [show wmade 0 [awOp] = 1 from wmade_eq [awOp] 0 (by decide)] at h
  exact h)
 have hLwH := lh hLw3
 clear hL hT3 hO3 hD3 hLw3 h31 h32 hs hsl
 go_enter Tryz.func8, Tryz.ntmps8
 go_upto_region 2 with fail
 rw [<- hw1, <- hg]
 try rw [hs1]
 rw [<- hw2]
 try rw [hs2]
 rw [<- hw3]
 replace hw1 := lh hw1
 replace hw2 := lh hw2
 replace hw3 := lh hw3
 replace hg := lh hg
 replace hs1 := lh hs1
 replace hs2 := lh hs2
 obtain ⟨p0, p1, p2, _, _⟩ := blk3' h33.out
 go_wp2_with fail
 refine (CW.out).mono ?_
 rintro ev w4 ⟨rfl, hb4⟩
 have y4 := lh hb4
 have hL4 := lh (hLwH.out.below hb4)
 clear hb4 p0 p1 p2
 go_upto_region 3 with fail
 go_wp2_with fail
 refine (CR.out w4 hL4.out).mono ?_
 rintro ev w5 ⟨D, dc, A, ac, rfl, hTx, hOx, hb5⟩
 have y5 := lh (y4.out.trans (hb5.mono y4.out.size))
 have hL5 := lh (hL4.out.below hb5)
 clear hTx hOx hb5
 simp only [List.length_nil, List.length_cons, Nat.zero_add]
 obtain ⟨q, hq⟩ : ∃ q, q = w5.heap.size := ⟨_, rfl⟩
 obtain ⟨w6, hw6⟩ : ∃ w6, w6 = w5.alloc (.cells #[.string ⟨#[]⟩, .slice D 0 dc, .slice A 1 ac] 25) := ⟨_, rfl⟩
 have hq6 := lh (show w6.heap[q]? = some (.cells #[.string ⟨#[]⟩, .slice D 0 dc, .slice A 1 ac] 25 (0, 0)) by rw [hw6, hq]; exact heap_alloc_at _ _)
 have hb56 := lh (show Below w5.heap.size w5 w6 by rw [hw6]; exact Wi.below_alloc _ _)
 have y6 := lh (y5.out.trans (hb56.out.mono y5.out.size))
 have hL6 := lh (hL5.out.below hb56.out)
 have h36 := lh ((y6.out.block _ (heap_lt h33.out)).trans h33.out)
 obtain ⟨p0, p1, p2, _, _⟩ := blk3' h36.out
 go_upto_region 4 with fail
 rw [<- hw6, <- hq]
 replace hw6 := lh hw6
 replace hq := lh hq
 go_wp2_with fail
 refine (CI.out w6 hL6.out y6.out).mono ?_
 rintro ev w7 ⟨hb7, hans⟩
 have hir := aw_inv_right (pname ⟨#[]⟩ [] [awOp]) (pname_right _ _ _)
 rw [aw_ideps, aw_iops, hir] at hans
 rcases hans with ⟨_, E, ec, B, bc, rfl, hTE, hOB⟩ | ⟨h, _⟩
 . simp only [List.length_nil, List.length_cons, Nat.zero_add]
   obtain ⟨b, of, L, cl, rfl, c0, c1, c2, c3, c4, c5, _⟩ := hOB.get 0 _ rfl
   rw [Nat.zero_mul, Nat.add_zero] at c0
   have hcH := lh c0
   have y7 := lh (y6.out.trans (hb7.mono y6.out.size))
   have hq7 := lh ((hb7.block _ (heap_lt hq6.out)).trans hq6.out)
   clear hb7 hTE hOB hir c0 c1 c2 c3 c4 c5 p0 p1 p2
   obtain ⟨r, hr⟩ : ∃ r, r = w7.heap.size := ⟨_, rfl⟩
   obtain ⟨w8, hw8⟩ : ∃ w8, w8 = w7.alloc (.cells #[.string undoB, .slice E 1 ec, .slice (some ⟨b, of, none⟩) 1 bc] 25) := ⟨_, rfl⟩
   have hr8 := lh (show w8.heap[r]? = some (.cells #[.string undoB, .slice E 1 ec, .slice (some ⟨b, of, none⟩) 1 bc] 25 (0, 0)) by rw [hw8, hr]; exact heap_alloc_at _ _)
   have hb78 := lh (show Below w7.heap.size w7 w8 by rw [hw8]; exact Wi.below_alloc _ _)
   have y8 := lh (y7.out.trans (hb78.out.mono y7.out.size))
   have h38 := lh ((y8.out.block _ (heap_lt h33.out)).trans h33.out)
   have hq8 := lh ((hb78.out.block _ (heap_lt hq7.out)).trans hq7.out)
   have hc8 := lh (keepc hb78.out hcH.out)
   go_upto_region 5 with fail
   rw [<- hw8, <- hr]
   replace hw8 := lh hw8
   replace hr := lh hr
   obtain ⟨p0, p1, p2, _, _⟩ := blk3' h38.out
   obtain ⟨q0, q1, q2, _, _⟩ := blk3' hq8.out
   go_wp2_with fail
   refine (CM.out w8 y8.out).mono ?_
   rintro ev w9 ⟨rfl, hb9⟩
   have y9 := lh (y8.out.trans (hb9.mono y8.out.size))
   have hr9 := lh ((hb9.block _ (heap_lt hr8.out)).trans hr8.out)
   have hc9 := lh (keepc hb9 hc8.out)
   clear hb9 p0 p1 p2 q0 q1 q2
   obtain ⟨q0, q1, q2, _, _⟩ := blk3' hr9.out
   have c0 := hc9.out
   go_wp2_with fail
   go_ret
   exact ⟨rfl, hb3.out.trans (y9.out.mono hb3.out.size)⟩
 . cases h
end Go.Proofs.YtbiioaggilaebaaGreatDoor.Pa
namespace Go.Proofs.YtbiioaggilaebaaGreatDoor.Pa
open Go Go.RowKit B Tm Wi
theorem less_lt : ∀ (x y : List UInt8), Op.bytesLess x y = decide (x < y)
 | [], [] => by simp [Op.bytesLess]
 | _ :: _, [] => by simp [Op.bytesLess]
 | [], _ :: _ => by simp [Op.bytesLess]
 | a :: x, b :: y => by
  rw [Op.bytesLess, less_lt x y]
  simp only [List.cons_lt_cons_iff]
  by_cases h1 : a < b <;> by_cases h2 : a = b <;> by_cases h3 : x < y <;> simp [h1, h2, h3]
abbrev SS (l : List (List UInt8)) : Prop := l.Pairwise (· < ·)
theorem ss_eq : ∀ {l m : List (List UInt8)}, SS l -> SS m -> (∀ x, x ∈ l ↔ x ∈ m) -> l = m
 | [], [], _, _, _ => rfl
 | [], b :: m, _, _, h => absurd ((h b).2 (by simp)) (by simp)
 | a :: l, [], _, _, h => absurd ((h a).1 (by simp)) (by simp)
 | a :: l, b :: m, hl, hm, h => by
  rw [SS, List.pairwise_cons] at hl hm
  have hab : a = b := by
   rcases List.mem_cons.1 ((h a).1 (by simp)) with e | e
   . exact e
   . rcases List.mem_cons.1 ((h b).2 (by simp)) with e' | e'
     . exact e'.symm
     . exact absurd (List.lt_trans (hl.1 b e') (hm.1 a e)) (List.lt_irrefl _)
  subst hab
  rw [ss_eq hl.2 hm.2 (fun x => ?_)]
  constructor
  . intro hx
    rcases List.mem_cons.1 ((h x).1 (by simp [hx])) with e | e
    . subst e
      exact absurd (hl.1 x hx) (List.lt_irrefl _)
    . exact e
  . intro hx
    rcases List.mem_cons.1 ((h x).2 (by simp [hx])) with e | e
    . subst e
      exact absurd (hm.1 x hx) (List.lt_irrefl _)
    . exact e
theorem lt_of_le_ne {x y : List UInt8} (h : x <= y) (hne : x ≠ y) : x < y := by
 rcases Decidable.em (x < y) with h1 | h1
 . exact h1
 . exact absurd (List.le_antisymm h (List.not_lt.1 h1)) hne
theorem compactTo {d : Array (List UInt8)} (hd : d.toList.Pairwise (· <= ·)) : ∀ m, m <= d.size -> SS (Lib.compactUpTo d m) /\ ∀ x, x ∈ Lib.compactUpTo d m ↔ ∃ j, j < m /\ d[j]! = x := by
 have hle : ∀ i j, i < j -> j < d.size -> d[i]! <= d[j]! := fun i j hij hj => by
  have := List.pairwise_iff_getElem.1 hd i j (by simp; omega) (by simp; omega) hij
  rw [getElem!_pos d i (by omega), getElem!_pos d j hj]
  simpa using this
 intro m
 induction m with
 | zero =>
  intro _
  refine ⟨by simp [Lib.compactUpTo, SS], fun x => ?_⟩
  simp [Lib.compactUpTo]
 | succ m ih =>
  intro hm
  obtain ⟨h1, h2⟩ := ih (by omega)
  rw [Lib.compactUpTo_succ]
  by_cases hk : Lib.keeps d m = true
  . rw [if_pos hk]
    have hk' : m = 0 \/ d[m]! ≠ d[m - 1]! := by simpa [Lib.keeps] using hk
    constructor
    . rw [SS, List.pairwise_append]
      refine ⟨h1, by simp, fun x hx y hy => ?_⟩
      rw [List.mem_singleton] at hy
      subst hy
      obtain ⟨j, hj, rfl⟩ := (h2 x).1 hx
      have hm0 : m ≠ 0 := by omega
      have hne := hk'.resolve_left hm0
      have hlt := lt_of_le_ne (hle (m - 1) m (by omega) (by omega)) (fun e => hne e.symm)
      by_cases e : j = m - 1
      . subst e; exact hlt
      . have h3 := hle j (m - 1) (by omega) (by omega)
        exact lt_of_le_ne (hle j m (by omega) (by omega)) (fun e2 => by
         rw [e2] at h3
         exact absurd hlt (List.not_lt.2 h3))
    . intro x
      rw [List.mem_append, h2, List.mem_singleton]
      constructor
      . rintro (⟨j, hj, rfl⟩ | rfl)
        . exact ⟨j, by omega, rfl⟩
        . exact ⟨m, by omega, rfl⟩
      . rintro ⟨j, hj, rfl⟩
        by_cases e : j = m
        . subst e; exact .inr rfl
        . exact .inl ⟨j, by omega, rfl⟩
  . rw [if_neg hk, List.append_nil]
    have hk' : m ≠ 0 /\ d[m]! = d[m - 1]! := by
     have : ¬ (m = 0 \/ d[m]! ≠ d[m - 1]!) := by simpa [Lib.keeps] using hk
     constructor
     . exact fun e => this (.inl e)
     . exact Classical.byContradiction fun e => this (.inr e)
    refine ⟨h1, fun x => ?_⟩
    rw [h2]
    constructor
    . rintro ⟨j, hj, rfl⟩
      exact ⟨j, by omega, rfl⟩
    . rintro ⟨j, hj, rfl⟩
      by_cases e : j = m
      . subst e
        exact ⟨j - 1, by omega, hk'.2.symm⟩
      . exact ⟨j, by omega, rfl⟩
theorem sortL_le (ss : List (List UInt8)) : (sortL ss).Pairwise (· <= ·) := by
 unfold sortL
 have := List.pairwise_mergeSort (le := fun x y : List UInt8 => decide (x <= y)) (fun a b c h1 h2 => by simp only [decide_eq_true_eq] at *; exact List.le_trans h1 h2) (fun a b => by simp only [Bool.or_eq_true, decide_eq_true_eq]; exact List.le_total a b) ss
 exact this.imp (fun h => by simpa using h)
theorem compact_ss (ss : List (List UInt8)) : SS (Lib.compact (sortL ss)) /\ ∀ x, x ∈ Lib.compact (sortL ss) ↔ x ∈ ss := by
 obtain ⟨h1, h2⟩ := compactTo (d := (sortL ss).toArray) (by simpa using sortL_le ss) (sortL ss).length (by simp)
 refine ⟨h1, fun x => ?_⟩
 unfold Lib.compact
 rw [h2, <- sortL_mem (ss := ss), List.mem_iff_getElem]
 constructor
 . rintro ⟨j, hj, e⟩
   exact ⟨j, hj, by rw [getElem!_pos _ j (by simpa using hj)] at e; simpa using e⟩
 . rintro ⟨j, hj, e⟩
   exact ⟨j, hj, by rw [getElem!_pos _ j (by simpa using hj)]; simpa using e⟩
def insL : List ByteArray -> ByteArray -> List ByteArray
 | [], s => [s]
 | x :: l, s => if gtB x s then s :: x :: l else x :: insL l s
theorem fold_done (s : ByteArray) : ∀ (l acc : List ByteArray), l.foldl (addS s) (acc, true) = (acc ++ l, true)
 | [], acc => by simp
 | x :: l, acc => by
  rw [List.foldl_cons, show addS s (acc, true) x = (acc ++ [x], true) by unfold addS; rfl, fold_done s l]
  simp
theorem fold_ins (s : ByteArray) : ∀ (l acc : List ByteArray), (if (l.foldl (addS s) (acc, false)).2 then (l.foldl (addS s) (acc, false)).1 else (l.foldl (addS s) (acc, false)).1 ++ [s]) = acc ++ insL l s
 | [], acc => by simp [insL]
 | x :: l, acc => by
  rw [List.foldl_cons, insL]
  by_cases h : gtB x s = true
  . rw [show addS s (acc, false) x = (acc ++ [s] ++ [x], true) by unfold addS; rw [h]; rfl, fold_done, if_pos h]
    simp
  . have h' : gtB x s = false := by simpa using h
    rw [show addS s (acc, false) x = (acc ++ [x], false) by unfold addS; rw [h']; rfl, fold_ins s l, if_neg h]
    simp
theorem insR_eq (l : List ByteArray) (s : ByteArray) : insR l s = insL l s := by
 have := fold_ins s l []
 rw [List.nil_append] at this
 exact this
theorem gtB_lt (x s : ByteArray) : gtB x s = decide (s.data.toList < x.data.toList) := by
 unfold gtB
 rw [less_lt, ByteArray.toList_eq, ByteArray.toList_eq]
 generalize x.data.toList = a
 generalize s.data.toList = b
 rw [Bool.eq_iff_iff]
 simp only [Bool.and_eq_true, Bool.not_eq_true', decide_eq_false_iff_not, beq_eq_false_iff_ne, decide_eq_true_eq]
 constructor
 . rintro ⟨h1, h2⟩
   exact lt_of_le_ne (List.not_lt.1 h1) (fun e => h2 e.symm)
 . intro h
   exact ⟨fun h1 => absurd (List.lt_trans h h1) (List.lt_irrefl _), fun e => by subst e; exact absurd h (List.lt_irrefl _)⟩
theorem insL_mem (s : ByteArray) : ∀ (l : List ByteArray) (x : ByteArray), x ∈ insL l s ↔ x = s \/ x ∈ l
 | [], x => by simp [insL]
 | y :: l, x => by
  rw [insL]
  split
  . simp
  . rw [List.mem_cons, insL_mem s l, List.mem_cons]
    constructor
    . rintro (h | h | h)
      . exact .inr (.inl h)
      . exact .inl h
      . exact .inr (.inr h)
    . rintro (h | h | h)
      . exact .inr (.inl h)
      . exact .inl h
      . exact .inr (.inr h)
theorem ba_ext {x y : ByteArray} (h : x.data.toList = y.data.toList) : x = y := ByteArray.ext (Array.ext' h)
theorem insL_ss (s : ByteArray) : ∀ (l : List ByteArray), SS (toL l) -> s ∉ l -> SS (toL (insL l s))
 | [], _, _ => by simp [insL, toL, SS]
 | x :: l, h, hs => by
  have h' : SS (x.data.toList :: toL l) := h
  rw [SS, List.pairwise_cons] at h'
  rw [insL]
  by_cases hg : gtB x s = true
  . rw [if_pos hg]
    rw [gtB_lt, decide_eq_true_eq] at hg
    show SS (s.data.toList :: x.data.toList :: toL l)
    rw [SS, List.pairwise_cons]
    refine ⟨fun y hy => ?_, h⟩
    rcases List.mem_cons.1 hy with rfl | hy
    . exact hg
    . exact List.lt_trans hg (h'.1 y hy)
  . rw [if_neg hg]
    rw [gtB_lt, decide_eq_true_eq] at hg
    show SS (x.data.toList :: toL (insL l s))
    rw [SS, List.pairwise_cons]
    refine ⟨fun y hy => ?_, insL_ss s l h'.2 (fun hm => hs (by simp [hm]))⟩
    obtain ⟨z, hz, rfl⟩ := List.mem_map.1 hy
    rcases (insL_mem s l z).1 hz with rfl | hz
    . exact lt_of_le_ne (List.not_lt.1 hg) (fun e => hs (by rw [ba_ext e]; simp))
    . exact h'.1 _ (List.mem_map.2 ⟨z, hz, rfl⟩)
theorem placeF_mem (s : ByteArray) : ∀ (l : List ByteArray) (i : Int), 0 <= i -> (0 <= placeF l s i ↔ s ∈ l)
 | [], i, _ => by simp [placeF]
 | x :: l, i, hi => by
  rw [placeF]
  by_cases h : x.toList = s.toList
  . have : x = s := ba_ext (by rw [ByteArray.toList_eq, ByteArray.toList_eq] at h; exact h)
    subst this
    rw [if_pos rfl]
    simp [hi]
  . rw [if_neg h, placeF_mem s l (i + 1) (by omega), List.mem_cons]
    constructor
    . exact .inr
    . rintro (e | e)
      . subst e; exact absurd rfl h
      . exact e
theorem place_mem (l : List ByteArray) (s : ByteArray) : 0 <= place l s ↔ s ∈ l := placeF_mem s l 0 (by omega)
theorem radd_ss {l : List ByteArray} {s : ByteArray} (h : SS (toL l)) : SS (toL (radd l s)) /\ ∀ x, x ∈ radd l s ↔ x = s \/ x ∈ l := by
 unfold radd
 by_cases hp : 0 <= place l s
 . rw [if_pos hp]
   have hm := (place_mem l s).1 hp
   exact ⟨h, fun x => ⟨.inr, by rintro (rfl | h) <;> assumption⟩⟩
 . rw [if_neg hp, insR_eq]
   exact ⟨insL_ss s l h (fun hm => hp ((place_mem l s).2 hm)), insL_mem s l⟩
def rneed (deps : List ByteArray) (o : Op) : List ByteArray := (if o.k = 1 then [] else dp deps o.a) ++ (if o.k = 2 \/ o.k = 3 then dp deps o.b else [])
def rdepsF (deps : List ByteArray) (q : List ByteArray) (ops : List Op) : List ByteArray := (ops.flatMap (rneed deps)).foldl radd q
theorem fold_radd : ∀ (L q : List ByteArray), SS (toL q) -> SS (toL (L.foldl radd q)) /\ ∀ x, x ∈ L.foldl radd q ↔ x ∈ q \/ x ∈ L
 | [], q, h => ⟨h, fun x => by simp⟩
 | s :: L, q, h => by
  obtain ⟨h1, h2⟩ := radd_ss (s := s) h
  obtain ⟨h3, h4⟩ := fold_radd L (radd q s) h1
  refine ⟨h3, fun x => ?_⟩
  rw [List.foldl_cons, h4, h2, List.mem_cons]
  constructor
  . rintro ((h | h) | h)
    . exact .inr (.inl h)
    . exact .inl h
    . exact .inr (.inr h)
  . rintro (h | h | h)
    . exact .inl (.inr h)
    . exact .inl (.inl h)
    . exact .inr h
theorem stepI_need (deps : List ByteArray) (n : Int) (o : Op) (hk : 1 <= o.k /\ o.k <= 5) (x : ByteArray) : x ∈ (stepI n o).flatMap (opd deps) ↔ x ∈ rneed deps o := by
 unfold stepI rneed
 by_cases h1 : o.k = 1
 . rw [if_pos h1, if_pos h1, if_neg (by omega)]
   simp only [List.append_nil, List.not_mem_nil, iff_false]
   intro hx
   obtain ⟨p, hp, hx⟩ := List.mem_flatMap.1 hx
   unfold dels at hp
   obtain ⟨i, _, rfl⟩ := List.mem_map.1 hp
   unfold opd dp at hx
   simp at hx
 . rw [if_neg h1, if_neg h1]
   by_cases h23 : o.k = 2 \/ o.k = 3
   . rw [if_pos h23, if_pos h23]
     simp only [List.flatMap_cons, List.flatMap_nil, List.append_nil]
     unfold opd
     rw [if_pos (show (5 - o.k = 2 \/ 5 - o.k = 3) by omega)]
   . rw [if_neg h23, if_neg h23]
     simp only [List.flatMap_cons, List.flatMap_nil, List.append_nil]
     unfold opd
     rw [if_neg (show ¬ (9 - o.k = 2 \/ 9 - o.k = 3) by omega), List.append_nil]
theorem binv_need (deps : List ByteArray) (x : ByteArray) : ∀ (l : List Op) (n : Int), (∀ o ∈ l, 1 <= o.k /\ o.k <= 5) -> (x ∈ (binv n l).flatMap (opd deps) ↔ x ∈ l.flatMap (rneed deps))
 | [], n, _ => by rw [binv]; simp
 | o :: l, n, h => by
  rw [binv, List.flatMap_append, List.mem_append, List.flatMap_cons, List.mem_append, stepI_need deps n o (h o (by simp)) x, binv_need deps x l _ (fun p hp => h p (by simp [hp]))]
theorem ideps_eq (name : ByteArray) (deps : List ByteArray) (ops : List Op) (h : ∀ o ∈ ops, 1 <= o.k /\ o.k <= 5) : rdepsF deps [name] ops = ideps name deps ops := by
 obtain ⟨h1, h2⟩ := fold_radd (ops.flatMap (rneed deps)) [name] (by simp [toL, SS])
 obtain ⟨h3, h4⟩ := compact_ss (toL (name :: (bops ops).flatMap (opd deps)))
 have hto : toL (ideps name deps ops) = Lib.compact (sortL (toL (name :: (bops ops).flatMap (opd deps)))) := by
  unfold ideps toL ofL
  rw [List.map_map]
  conv => rhs; rw [<- List.map_id (Lib.compact _)]
  rfl
 have e : toL (rdepsF deps [name] ops) = toL (ideps name deps ops) := by
  rw [hto]
  refine ss_eq h1 h3 (fun x => ?_)
  rw [h4]
  have hx : ∀ (l : List ByteArray), x ∈ toL l ↔ (⟨x.toArray⟩ : ByteArray) ∈ l := fun l => by
   have := ofL_toL_mem (l := l) (x := ⟨x.toArray⟩)
   rwa [List.toList_toArray] at this
  rw [hx, hx]
  unfold rdepsF
  rw [h2, List.mem_singleton, List.mem_cons]
  have h5 := binv_need deps ⟨x.toArray⟩ ops.reverse (made ops) (fun o ho => h o (List.mem_reverse.1 ho))
  unfold bops
  rw [h5]
  simp only [List.mem_flatMap, List.mem_reverse]
 have h6 := congrArg ofL e
 rwa [ofL_toL, ofL_toL] at h6
def rstep (deps qd : List ByteArray) (own n : Int) (o : Op) : List Op :=
 if o.k = 1 then (List.range o.ls.length).map fun (i : Nat) => ⟨4, own, n - 1 - (i : Int), 0, 0, []⟩
 else if o.k = 2 \/ o.k = 3 then [⟨5 - o.k, rtn deps qd own o.a, o.m, rtn deps qd own o.b, o.n, []⟩] else [⟨9 - o.k, rtn deps qd own o.a, o.m, 0, 0, []⟩]
def rinv (deps qd : List ByteArray) (own : Int) : Int -> List Op -> List Op
 | _, [] => []
 | n, o :: l => rstep deps qd own n o ++ rinv deps qd own (n - mk1 o) l
theorem rinv_snoc (deps qd : List ByteArray) (own : Int) (o : Op) : ∀ (l : List Op) (n : Int), rinv deps qd own n (l ++ [o]) = rinv deps qd own n l ++ rstep deps qd own (n - made l) o
 | [], n => by
  rw [List.nil_append, rinv, rinv, rinv, made_nil, List.append_nil, List.nil_append]
  simp
 | p :: l, n => by
  rw [List.cons_append, rinv, rinv, rinv_snoc deps qd own o l, made_cons, List.append_assoc]
  congr 3
  omega
theorem rstep_eq (deps qd : List ByteArray) (name : ByteArray) (n : Int) (o : Op) (hk : 1 <= o.k /\ o.k <= 5) (h4 : o.k = 4 \/ o.k = 5 -> o.b = 0 /\ o.n = 0) : rstep deps qd (place qd name) n o = (stepI n o).map (tnOp deps qd name) := by
 have ht : ∀ t, tn deps qd name t = rtn deps qd (place qd name) t := fun t => rfl
 unfold rstep stepI
 by_cases h1 : o.k = 1
 . rw [if_pos h1, if_pos h1]
   unfold dels
   rw [List.map_map]
   apply List.map_congr_left
   intro i _
   show _ = tnOp deps qd name _
   unfold tnOp
   rw [if_neg (by show ¬ ((4 : Int) = 2 \/ (4 : Int) = 3); omega)]
   unfold setA
   show _ = (⟨4, tn deps qd name (-2), _, 0, 0, []⟩ : Op)
   have : tn deps qd name (-2) = place qd name := by unfold tn; rw [if_neg (by omega), if_pos rfl]
   rw [this]
 . rw [if_neg h1, if_neg h1]
   by_cases h23 : o.k = 2 \/ o.k = 3
   . rw [if_pos h23, if_pos h23]
     simp only [List.map_cons, List.map_nil]
     unfold tnOp
     rw [if_pos (by show (5 - o.k = 2 \/ 5 - o.k = 3); omega)]
     unfold setA setB
     simp only [ht]
   . rw [if_neg h23, if_neg h23]
     simp only [List.map_cons, List.map_nil]
     unfold tnOp
     rw [if_neg (by show ¬ (9 - o.k = 2 \/ 9 - o.k = 3); omega)]
     unfold setA
     obtain ⟨hb, hn⟩ := h4 (by omega)
     simp only [ht, hb, hn]
theorem rinv_eq (deps qd : List ByteArray) (name : ByteArray) : ∀ (l : List Op) (n : Int), (∀ o ∈ l, (1 <= o.k /\ o.k <= 5) /\ (o.k = 4 \/ o.k = 5 -> o.b = 0 /\ o.n = 0)) -> rinv deps qd (place qd name) n l = (binv n l).map (tnOp deps qd name)
 | [], n, _ => by rw [rinv, binv]; rfl
 | o :: l, n, h => by
  rw [rinv, binv, List.map_append, rstep_eq deps qd name n o (h o (by simp)).1 (h o (by simp)).2, rinv_eq deps qd name l _ (fun p hp => h p (by simp [hp]))]
theorem iops_eq (name : ByteArray) (deps : List ByteArray) (ops : List Op) (h : ∀ o ∈ ops, (1 <= o.k /\ o.k <= 5) /\ (o.k = 4 \/ o.k = 5 -> o.b = 0 /\ o.n = 0)) : rinv deps (ideps name deps ops) (place (ideps name deps ops) name) (made ops) ops.reverse = iops name deps ops := by
 unfold iops bops
 exact rinv_eq deps _ name ops.reverse _ (fun o ho => h o (List.mem_reverse.1 ho))
theorem pfits_45 {note : ByteArray} {deps : List ByteArray} {ops : List Op} (h : pfits note deps ops = true) (o : Op) (ho : o ∈ ops) : o.k = 4 \/ o.k = 5 -> o.b = 0 /\ o.n = 0 := by
 intro hk
 unfold pfits at h
 simp only [Bool.and_eq_true, decide_eq_true_eq] at h
 obtain ⟨i, hi, rfl⟩ := List.getElem_of_mem ho
 have h1 := List.all_eq_true.1 h.2.2.1 i (List.mem_range.2 hi)
 simp only [List.getElem?_eq_getElem hi] at h1
 unfold opOk at h1
 rw [if_neg (by omega), if_neg (by omega), if_pos hk] at h1
 simp only [Bool.and_eq_true, decide_eq_true_eq] at h1
 exact ⟨h1.2.2.1, h1.2.2.2.1⟩
end Go.Proofs.YtbiioaggilaebaaGreatDoor.Pa
