/- What LawPatchInverse lean on, part v of 29: the texts PsS, PiA, PaU, PaV. -/
import Derived.Test.YtbiioaggilaebaaGreatDoorTX0
import Derived.Test.YtbiioaggilaebaaGreatDoorTXg
import Derived.Test.YtbiioaggilaebaaGreatDoorTXo
import Derived.Test.YtbiioaggilaebaaGreatDoorTXp
import Derived.Test.YtbiioaggilaebaaGreatDoorTXq
import Derived.Test.YtbiioaggilaebaaGreatDoorTXr
import Derived.Test.YtbiioaggilaebaaGreatDoorTXs
import Derived.Test.YtbiioaggilaebaaGreatDoorTXt
import Derived.Test.YtbiioaggilaebaaGreatDoorTXu
set_option linter.all false
set_option maxRecDepth 100000
set_option maxHeartbeats 16000000
namespace Go.Proofs.YtbiioaggilaebaaGreatDoor.Pa
open Go Go.RowKit YtbiioaggilaebaaGreatDoorW.PrintWords B Tm Wi
theorem rsame_c (A : Option Addr) (c : Nat) (A' : Option Addr) (c' : Nat) (l : List ByteArray) (w : World) (h : TxAt w A c l) (h' : TxAt w A' c' l) :
 Calls Tryz.prog 58 #[.slice A l.length c, .slice A' l.length c'] w fun e w' => e = .returned (.bool true) /\ Below w.heap.size w w' := by
 obtain ⟨n, hn⟩ : ∃ n, n = l.length := ⟨_, rfl⟩
 rw [<- hn]
 have hn4 : n <= 140737488351232 := by rw [hn]; exact h.2.2.1
 have hH := lh h
 have hH' := lh h'
 replace hn := lh hn
 clear h h'
 go_enter Tryz.func58, Tryz.ntmps58
 go_upto_region 4 with fail
 go_loopg [5] n (fun g' i W => ∃ j : Nat, g' = n - j /\ j <= n /\ i = .int .i64 j /\ Below w.heap.size w W)
 case atStart => exact ⟨0, rfl, by omega, rfl, Below.refl _ _⟩
 case round =>
  obtain ⟨j, hg', hj, rfl, hb⟩ := hrel
  subst hg'
  have hbH := lh hb
  by_cases hjn : j < n
  . have hji : (j : Int) < (n : Int) := by omega
    obtain ⟨b, o, rfl, c1⟩ := str_cell (hH.out.below hb).1 j (by rw [<- hn.out]; exact hjn)
    obtain ⟨b', o', rfl, c2⟩ := str_cell (hH'.out.below hb).1 j (by rw [<- hn.out]; exact hjn)
    obtain ⟨s, hs⟩ : ∃ s, s = l.getD j ByteArray.empty := ⟨_, rfl⟩
    rw [<- hs] at c1 c2
    clear hs hb
    have p1 := Lat.cell c1
    have p2 := Lat.cell c2
    clear c1 c2
    go_upto_region 6 with fail
    refine wp_region_lat (by kernel_rfl) (by kernel_rfl) ?_
    repeat (go_big_quiet_step (fail))
    refine wpQuiet_nil ?_
    intro _ hw'
    obtain ⟨xl, hw''⟩ := hw'
    subst hw''
    have hbx := lh (hbH.out.trans (xl.below.mono hbH.out.size))
    go_wp2_with fail
    go_roundg (n - (j + 1))
    case measure => omega
    case rel => exact ⟨j + 1, rfl, by omega, by go_num, hbx.out⟩
  . have hji : ¬ (j : Int) < (n : Int) := by omega
    clear hb
    go_wp2_with fail
    go_ret
    exact ⟨rfl, hbH.out⟩
attribute [local go_sem high] ref_eqA
theorem psame5_c (note : ByteArray) (D : Option Addr) (dc : Nat) (deps : List ByteArray) (A : Option Addr) (ac : Nat) (ops : List Op) (D' : Option Addr) (dc' : Nat) (A' : Option Addr) (ac' : Nat) (w : World) (hD : TxAt w D dc deps) (hO : OpsAt w A ac ops) (hD' : TxAt w D' dc' deps) (hO' : OpsAt w A' ac' ops) :
 Calls Tryz.prog 23 #[.agg #[.string note, .slice D deps.length dc, .slice A ops.length ac], .agg #[.string note, .slice D' deps.length dc', .slice A' ops.length ac']] w fun e w' => e = .returned (.bool true) /\ Below w.heap.size w w' := by
 obtain ⟨g, hg⟩ : ∃ g, g = w.heap.size := ⟨_, rfl⟩
 obtain ⟨w1, hw1⟩ : ∃ w1, w1 = w.alloc (.cells #[.string note, .slice D deps.length dc, .slice A ops.length ac] 25) := ⟨_, rfl⟩
 obtain ⟨w2, hw2⟩ : ∃ w2, w2 = w1.alloc (.cells #[.string note, .slice D' deps.length dc', .slice A' ops.length ac'] 25) := ⟨_, rfl⟩
 have hs1 : w1.heap.size = g + 1 := by rw [hw1, hg]; simp
 have hb2 := lh (show Below w.heap.size w w2 by rw [hw2, hw1]; exact ((Below.refl _ _).alloc (Nat.le_refl _) _).alloc (by simp) _)
 have hp2 := lh (show PatAt w2 g note D deps.length dc A ops.length ac by unfold PatAt; rw [hw2, heap_alloc_lt _ _ _ (by omega), hw1, hg]; exact heap_alloc_at _ _)
 have hq2 := lh (show PatAt w2 (g + 1) note D' deps.length dc' A' ops.length ac' by unfold PatAt; rw [hw2, <- hs1]; exact heap_alloc_at _ _)
 have CD := lh (rsame_c D dc D' dc' deps w2 (hD.below hb2.out) (hD'.below hb2.out))
 have hOH := lh (hO.below hb2.out)
 have hOH' := lh (hO'.below hb2.out)
 have hn4 : ops.length <= 140737488351232 := hO.2.1
 obtain ⟨nd, hnd⟩ : ∃ nd, nd = deps.length := ⟨_, rfl⟩
 obtain ⟨no, hno⟩ : ∃ no, no = ops.length := ⟨_, rfl⟩
 rw [<- hnd, <- hno] at hw1 hw2 hp2 hq2 ⊢
 rw [<- hnd] at CD
 rw [<- hno] at hn4
 replace hno := lh hno
 clear hD hO hD' hO' hnd
 obtain ⟨p0, p1, p2, _, _⟩ := blk3' hp2.out
 obtain ⟨q0, q1, q2, _, _⟩ := blk3' hq2.out
 go_enter Tryz.func23, Tryz.ntmps23
 go_upto_region 1 with fail
 rw [<- hw1, <- hg]
 try rw [hs1]
 rw [<- hw2]
 replace hw1 := lh hw1
 replace hw2 := lh hw2
 replace hg := lh hg
 replace hs1 := lh hs1
 go_wp2_with fail
 refine (CD.out).mono ?_
 rintro ev w3 ⟨rfl, hb3⟩
 have hp3 := lh ((hb3.block _ (heap_lt hp2.out)).trans hp2.out)
 have hq3 := lh ((hb3.block _ (heap_lt hq2.out)).trans hq2.out)
 have hO3 := lh (hOH.out.below hb3)
 have hO3' := lh (hOH'.out.below hb3)
 have y3 := lh (hb2.out.trans (hb3.mono hb2.out.size))
 clear hb3 p0 p1 p2 q0 q1 q2 CD hOH hOH'
 obtain ⟨p0, p1, p2, _, _⟩ := blk3' hp3.out
 obtain ⟨q0, q1, q2, _, _⟩ := blk3' hq3.out
 go_upto_region 4 with fail
 clear p0 p1 p2 q0 q1 q2
 go_loopg [5] no (fun g' i W => ∃ j : Nat, g' = no - j /\ j <= no /\ i = .int .i64 j /\ Below w3.heap.size w3 W)
 case atStart => exact ⟨0, rfl, by omega, rfl, Below.refl _ _⟩
 case round =>
  obtain ⟨j, hg', hj, rfl, hb⟩ := hrel
  subst hg'
  have hbH := lh hb
  have hpr := lh ((hb.block _ (heap_lt hp3.out)).trans hp3.out)
  have hqr := lh ((hb.block _ (heap_lt hq3.out)).trans hq3.out)
  obtain ⟨p0, p1, p2, _, _⟩ := blk3' hpr.out
  obtain ⟨q0, q1, q2, _, _⟩ := blk3' hqr.out
  by_cases hjn : j < no
  . have hji : (j : Int) < (no : Int) := by omega
    have hjl : j < ops.length := by rw [<- hno.out]; exact hjn
    obtain ⟨x, hx⟩ : ∃ x, ops[j]? = some x := ⟨_, List.getElem?_eq_getElem hjl⟩
    obtain ⟨b, of, L, cl, rfl, c0, c1, c2, c3, c4, c5, hT⟩ := (hO3.out.below hb).get j x hx
    obtain ⟨b', of', L', cl', rfl, d0, d1, d2, d3, d4, d5, hT'⟩ := (hO3'.out.below hb).get j x hx
    replace hx := lh hx
    obtain ⟨xk, xa, xm, xb, xn, xls⟩ := x
    simp only at c0 c1 c2 c3 c4 c5 d0 d1 d2 d3 d4 d5 hT hT'
    obtain ⟨u, hu⟩ : ∃ u, u = wr.heap.size := ⟨_, rfl⟩
    obtain ⟨w4, hw4⟩ : ∃ w4, w4 = wr.alloc (.cells #[.int .i64 xk, .int .i64 xa, .int .i64 xm, .int .i64 xb, .int .i64 xn, .slice L xls.length cl] 38) := ⟨_, rfl⟩
    obtain ⟨w5, hw5⟩ : ∃ w5, w5 = w4.alloc (.cells #[.int .i64 xk, .int .i64 xa, .int .i64 xm, .int .i64 xb, .int .i64 xn, .slice L' xls.length cl'] 38) := ⟨_, rfl⟩
    have hs4 : w4.heap.size = u + 1 := by rw [hw4, hu]; simp
    have hb4 := lh (show Below wr.heap.size wr w4 by rw [hw4]; exact Wi.below_alloc _ _)
    have hb5 := lh (show Below wr.heap.size wr w5 by rw [hw5]; exact hb4.out.alloc hb4.out.size _)
    have hu5 := lh (show w5.heap[u]? = some (.cells #[.int .i64 xk, .int .i64 xa, .int .i64 xm, .int .i64 xb, .int .i64 xn, .slice L xls.length cl] 38 (0, 0)) by rw [hw5, heap_alloc_lt _ _ _ (by omega), hw4, hu]; exact heap_alloc_at _ _)
    have hv5 := lh (show w5.heap[u + 1]? = some (.cells #[.int .i64 xk, .int .i64 xa, .int .i64 xm, .int .i64 xb, .int .i64 xn, .slice L' xls.length cl'] 38 (0, 0)) by rw [hw5, <- hs4]; exact heap_alloc_at _ _)
    have CL := lh (rsame_c L cl L' cl' xls w5 (hT.below hb5.out) (hT'.below hb5.out))
    have hk4 := lh (show ∀ (p : Addr) (v : Value), wr.cell? p = some v -> w4.cell? p = some v from fun p v h => keepc hb4.out h)
    have e0 := hk4.out _ _ d0
    have e1 := hk4.out _ _ d1
    have e2 := hk4.out _ _ d2
    have e3 := hk4.out _ _ d3
    have e4 := hk4.out _ _ d4
    have e5 := hk4.out _ _ d5
    have e6 := hk4.out _ _ q2
    clear hT hT' d0 d1 d2 d3 d4 d5 hb q0 q1 q2
    go_upto_region 7 with fail
    rw [<- hw4, <- hu]
    replace hw4 := lh hw4
    replace hu := lh hu
    clear c0 c1 c2 c3 c4 c5 p0 p1 p2
    go_upto_region 8 with fail
    rw [<- hw5]
    try rw [hs4]
    replace hw5 := lh hw5
    replace hs4 := lh hs4
    clear e0 e1 e2 e3 e4 e5 e6
    obtain ⟨c0, c1, c2, c3, c4, c5, _, _⟩ := six_facts hu5.out
    obtain ⟨d0, d1, d2, d3, d4, d5, _, _⟩ := six_facts hv5.out
    go_wp2_with fail
    refine (CL.out).mono ?_
    rintro ev w6 ⟨rfl, hb6⟩
    have y6 := lh (hbH.out.trans ((hb5.out.trans (hb6.mono hb5.out.size)).mono hbH.out.size))
    clear hb6 c0 c1 c2 c3 c4 c5 d0 d1 d2 d3 d4 d5
    go_wp2_with fail
    go_roundg (no - (j + 1))
    case measure => omega
    case rel => exact ⟨j + 1, rfl, by omega, by go_num, y6.out⟩
  . have hji : ¬ (j : Int) < (no : Int) := by omega
    clear hb
    go_wp2_with fail
    go_ret
    exact ⟨rfl, y3.out.trans (hbH.out.mono y3.out.size)⟩
end Go.Proofs.YtbiioaggilaebaaGreatDoor.Pa
namespace Go.Proofs.YtbiioaggilaebaaGreatDoor.Pa
open Go Go.RowKit YtbiioaggilaebaaGreatDoorW.PrintWords B Tm Wi
def gtB (x s : ByteArray) : Bool := !Op.bytesLess x.toList s.toList && !(x.toList == s.toList)
def addS (s : ByteArray) (st : List ByteArray × Bool) (x : ByteArray) : List ByteArray × Bool := if !st.2 && gtB x s then (st.1 ++ [s] ++ [x], true) else (st.1 ++ [x], st.2)
def addR (l : List ByteArray) (s : ByteArray) : List ByteArray × Bool := l.foldl (addS s) ([], false)
def insR (l : List ByteArray) (s : ByteArray) : List ByteArray := if (addR l s).2 then (addR l s).1 else (addR l s).1 ++ [s]
def radd (l : List ByteArray) (s : ByteArray) : List ByteArray := if 0 <= place l s then l else insR l s
theorem addR_snoc (l : List ByteArray) (s x : ByteArray) : addR (l ++ [x]) s = addS s (addR l s) x := by unfold addR; rw [List.foldl_append]; rfl
theorem addS_len (s : ByteArray) (st : List ByteArray × Bool) (x : ByteArray) : (addS s st x).1.length <= st.1.length + 2 := by
 unfold addS
 split
 . simp
 . simp
theorem addR_len (s : ByteArray) (l : List ByteArray) : ∀ k, (addR (l.take k) s).1.length <= 2 * k
 | 0 => by simp [addR]
 | k + 1 => by
  have ih := addR_len s l k
  by_cases hk : k < l.length
  . rw [List.take_succ_eq_append_getElem hk, addR_snoc]
    have := addS_len s (addR (l.take k) s) l[k]
    omega
  . rw [List.take_of_length_le (by omega)]
    rw [List.take_of_length_le (by omega)] at ih
    omega
def AddPost (A : Option Addr) (c : Nat) (l : List ByteArray) (s : ByteArray) (w : World) (e : Ending) (w' : World) : Prop :=
 ∃ A' c', e = .returned (.slice A' (radd l s).length c') /\ TxAt w' A' c' (radd l s) /\ (A' = A /\ radd l s = l \/ ∀ a, A' = some a -> w.heap.size <= a.block) /\ Below w.heap.size w w'
theorem srow_tx {base : Nat} {w : World} {v : Value} {l : List ByteArray} (h : StrRow base w v l) (hl : l.length <= 140737488351232) (hs : ∀ x ∈ l, x.size <= 140737488351232) : ∃ A c, v = .slice A l.length c /\ TxAt w A c l /\ ∀ a, A = some a -> base <= a.block := by
 obtain ⟨A, c, e, h1, h2, h3⟩ := h.read
 exact ⟨A, c, e, ⟨h2, h1, hl, hs⟩, h3⟩
theorem addR_mem (s : ByteArray) : ∀ (l : List ByteArray) (x : ByteArray), x ∈ (addR l s).1 -> x = s \/ x ∈ l := by
 intro l
 suffices h : ∀ (l : List ByteArray) (st : List ByteArray × Bool) (x : ByteArray), x ∈ (l.foldl (addS s) st).1 -> x ∈ st.1 \/ x = s \/ x ∈ l by
  intro x hx
  rcases h l ([], false) x hx with h | h
  . cases h
  . exact h
 intro l
 induction l with
 | nil => intro st x hx; exact .inl hx
 | cons y l ih =>
  intro st x hx
  rw [List.foldl_cons] at hx
  rcases ih _ x hx with h | h | h
  . unfold addS at h
    split at h
    . simp only [List.mem_append, List.mem_singleton] at h
      rcases h with (h | h) | h
      . exact .inl h
      . exact .inr (.inl h)
      . exact .inr (.inr (by simp [h]))
    . simp only [List.mem_append, List.mem_singleton] at h
      rcases h with h | h
      . exact .inl h
      . exact .inr (.inr (by simp [h]))
  . exact .inr (.inl h)
  . exact .inr (.inr (by simp [h]))
theorem insR_mem {s : ByteArray} {l : List ByteArray} {x : ByteArray} (h : x ∈ insR l s) : x = s \/ x ∈ l := by
 unfold insR at h
 split at h
 . exact addR_mem s l x h
 . rw [List.mem_append, List.mem_singleton] at h
   rcases h with h | h
   . exact addR_mem s l x h
   . exact .inl h
theorem radd_c (A : Option Addr) (c : Nat) (l : List ByteArray) (s : ByteArray) (w : World) (hT : TxAt w A c l) (hl : l.length <= 100000) (hs : s.size <= 140737488351232) :
 Calls Tryz.prog 68 #[.slice A l.length c, .string s] w (AddPost A c l s w) := by
 have CP := lh (place_c A c l s w hT)
 obtain ⟨pl, hpl⟩ : ∃ pl, pl = place l s := ⟨_, rfl⟩
 obtain ⟨n, hn⟩ : ∃ n, n = l.length := ⟨_, rfl⟩
 have hTH := lh hT
 rw [<- hpl, <- hn] at CP
 rw [<- hn] at hl ⊢
 replace hn := lh hn
 have hplH := lh hpl
 clear hT hpl
 go_enter Tryz.func68, Tryz.ntmps68
 go_wp2_with fail
 refine (CP.out).mono ?_
 rintro ev w2 ⟨rfl, hb2⟩
 have y2 := lh hb2
 clear hb2 CP
 by_cases h0 : 0 <= pl
 . go_wp2_with fail
   go_ret
   have hr := show radd l s = l by unfold radd; rw [<- hplH.out, if_pos h0]
   exact ⟨A, c, by rw [hr, hn.out]; rfl, by rw [hr]; exact hTH.out.below y2.out, .inl ⟨rfl, hr⟩, y2.out⟩
 . have hr := lh (show radd l s = insR l s by unfold radd; rw [<- hplH.out, if_neg h0])
   have h1 : pl < 0 := by omega
   go_upto_region 6 with fail
   go_loopg [5, 6, 7] n (fun g' v dn i W => ∃ (k : Nat) (d : Bool), g' = n - k /\ k <= n /\ i = .int .i64 k /\ dn = .bool d /\ (addR (l.take k) s).2 = d /\ StrRow w2.heap.size W v (addR (l.take k) s).1 /\ Below w2.heap.size w2 W)
   case atStart => exact ⟨0, false, by omega, by omega, rfl, rfl, rfl, StrRow.nil _ _, Below.refl _ _⟩
   case round =>
    obtain ⟨k, d, hg', hk, rfl, rfl, hd, hrow, hb⟩ := hrel
    subst hg'
    have hbH := lh hb
    have hrowH := lh hrow
    have hdH := lh hd
    obtain ⟨m, hm⟩ : ∃ m, m = (addR (l.take k) s).1.length := ⟨_, rfl⟩
    have hm4 : m <= 200000 := by rw [hm]; have := addR_len s l k; omega
    replace hm := lh hm
    have hbs := lh (show w2.heap.size <= wr.heap.size from hb.size)
    by_cases hkn : k < n
    . have hki : (k : Int) < (n : Int) := by omega
      have hkl : k < l.length := by rw [<- hn.out]; exact hkn
      have hcc := str_cell (hTH.out.below y2.out).1 k hkl
      obtain ⟨bq, oq, rfl, hcell2⟩ := hcc
      have hbq := lh (World.block_lt_of_cell? w2 _ hcell2)
      have hcell := keepc hb hcell2
      clear hcell2
      obtain ⟨x, hx⟩ : ∃ x, x = l.getD k ByteArray.empty := ⟨_, rfl⟩
      rw [<- hx] at hcell
      have hnext := lh (show addR (l.take (k + 1)) s = addS s (addR (l.take k) s) x by
       rw [List.take_succ_eq_append_getElem hkl, addR_snoc, hx, List.getD_eq_getElem?_getD, List.getElem?_eq_getElem hkl]
       rfl)
      have hcH := lh hcell
      replace hx := lh hx
      clear hrow hb hd
      cases d with
      | true =>
       have hs2 := lh (show addS s (addR (l.take k) s) x = ((addR (l.take k) s).1 ++ [x], true) by unfold addS; rw [hdH.out]; rfl)
       go_wp2_with (at_builtin; refine str_app (by rfl) _ _ _ (by rfl) Tryz.underlying22 (by rfl) m 1 (by rfl) hrowH.out hm.out.symm (by omega) hbs.out ?_; intro g7 cap7 w7 hrow7 hgrew7; have hrow7H := lh hrow7; have hgrew7H := lh hgrew7; clear hrow7 hgrew7)
       go_roundg (n - (k + 1))
       case measure => omega
       case rel => exact ⟨k + 1, true, rfl, by omega, by go_num, rfl, by rw [hnext.out, hs2.out], by rw [hnext.out, hs2.out]; exact hrow7H.out, hgrew7H.out.below hbH.out hbs.out (fun b hb => (hrowH.out.lt b hb).1)⟩
      | false =>
       cases h1 : Op.bytesLess x.toList s.toList with
       | true =>
        have hgt := lh (show gtB x s = false by unfold gtB; rw [h1]; rfl)
        have hs2 := lh (show addS s (addR (l.take k) s) x = ((addR (l.take k) s).1 ++ [x], false) by unfold addS; rw [hdH.out, hgt.out]; rfl)
        go_wp2_with (at_builtin; refine str_app (by rfl) _ _ _ (by rfl) Tryz.underlying22 (by rfl) m 1 (by rfl) hrowH.out hm.out.symm (by omega) hbs.out ?_; intro g7 cap7 w7 hrow7 hgrew7; have hrow7H := lh hrow7; have hgrew7H := lh hgrew7; clear hrow7 hgrew7)
        go_roundg (n - (k + 1))
        case measure => omega
        case rel => exact ⟨k + 1, false, rfl, by omega, by go_num, rfl, by rw [hnext.out, hs2.out], by rw [hnext.out, hs2.out]; exact hrow7H.out, hgrew7H.out.below hbH.out hbs.out (fun b hb => (hrowH.out.lt b hb).1)⟩
       | false =>
        cases h2 : (x.toList == s.toList) with
        | true =>
         have hgt := lh (show gtB x s = false by unfold gtB; rw [h1, h2]; rfl)
         have hs2 := lh (show addS s (addR (l.take k) s) x = ((addR (l.take k) s).1 ++ [x], false) by unfold addS; rw [hdH.out, hgt.out]; rfl)
         go_wp2_with (at_builtin; refine str_app (by rfl) _ _ _ (by rfl) Tryz.underlying22 (by rfl) m 1 (by rfl) hrowH.out hm.out.symm (by omega) hbs.out ?_; intro g7 cap7 w7 hrow7 hgrew7; have hrow7H := lh hrow7; have hgrew7H := lh hgrew7; clear hrow7 hgrew7)
         go_roundg (n - (k + 1))
         case measure => omega
         case rel => exact ⟨k + 1, false, rfl, by omega, by go_num, rfl, by rw [hnext.out, hs2.out], by rw [hnext.out, hs2.out]; exact hrow7H.out, hgrew7H.out.below hbH.out hbs.out (fun b hb => (hrowH.out.lt b hb).1)⟩
        | false =>
         have hgt := lh (show gtB x s = true by unfold gtB; rw [h1, h2]; rfl)
         have hs2 := lh (show addS s (addR (l.take k) s) x = ((addR (l.take k) s).1 ++ [s] ++ [x], true) by unfold addS; rw [hdH.out, hgt.out]; rfl)
         go_upto_region 10 with (at_builtin; refine str_app (by rfl) _ _ _ (by rfl) Tryz.underlying22 (by rfl) m 1 (by rfl) hrowH.out hm.out.symm (by omega) hbs.out ?_; intro g7 cap7 w7 hrow7 hgrew7; have hrow7H := lh hrow7; have hgrew7H := lh hgrew7; clear hrow7 hgrew7)
         have y7 := lh (hgrew7H.out.below hbH.out hbs.out (fun b hb => (hrowH.out.lt b hb).1))
         have hc7 := hgrew7H.out.cell hcH.out (fun e => by have h9 := (hrowH.out.lt _ e.symm).1; have h10 := hbq.out; simp only at h9 h10; omega)
         have hm7 := lh (show ((addR (l.take k) s).1 ++ [s]).length = m + 1 by rw [List.length_append, List.length_singleton, hm.out])
         have hbs7 := lh (show w2.heap.size <= w7.heap.size from y7.out.size)
         clear hcell
         go_wp2_with (at_builtin; refine str_app (by rfl) _ _ _ (by rfl) Tryz.underlying22 (by rfl) (m + 1) 1 (by rfl) hrow7H.out hm7.out (by omega) hbs7.out ?_; intro g8 cap8 w8 hrow8 hgrew8; have hrow8H := lh hrow8; have hgrew8H := lh hgrew8; clear hrow8 hgrew8)
         go_roundg (n - (k + 1))
         case measure => omega
         case rel => exact ⟨k + 1, true, rfl, by omega, by go_num, rfl, by rw [hnext.out, hs2.out], by rw [hnext.out, hs2.out]; exact hrow8H.out, hgrew8H.out.below y7.out hbs7.out (fun b hb => (hrow7H.out.lt b hb).1)⟩
    . have hki : ¬ (k : Int) < (n : Int) := by omega
      have ht := lh (show l.take k = l from List.take_of_length_le (by have := hn.out; omega))
      have hsz := lh (show ∀ x ∈ radd l s, x.size <= 140737488351232 from fun x hx => by
       rw [hr.out] at hx
       rcases insR_mem hx with rfl | h
       . exact hs
       . exact hTH.out.2.2.2 x h)
      clear hb
      cases d with
      | true =>
       have hins := lh (show radd l s = (addR (l.take k) s).1 by rw [hr.out]; unfold insR; rw [show addR l s = addR (l.take k) s by rw [ht.out], hdH.out, if_pos rfl])
       obtain ⟨A', c', e', hT', hA'⟩ := srow_tx hrow (by rw [<- hm.out]; omega) (fun x hx => hsz.out x (by rw [hins.out]; exact hx))
       rw [<- hm.out] at e'
       subst e'
       have hT'H := lh hT'
       have hA'H := lh hA'
       clear hrow hd hT' hA'
       go_wp2_with fail
       go_ret
       refine ⟨A', c', by rw [hins.out, <- hm.out]; rfl, by rw [hins.out]; exact hT'H.out, .inr (fun a ha => Nat.le_trans y2.out.size (hA'H.out a ha)), y2.out.trans (hbH.out.mono y2.out.size)⟩
      | false =>
       have hins := lh (show radd l s = (addR (l.take k) s).1 ++ [s] by rw [hr.out]; unfold insR; rw [show addR l s = addR (l.take k) s by rw [ht.out], hdH.out, if_neg (by simp)])
       clear hrow hd
       go_upto_region 14 with (at_builtin; refine str_app (by rfl) _ _ _ (by rfl) Tryz.underlying22 (by rfl) m 1 (by rfl) hrowH.out hm.out.symm (by omega) hbs.out ?_; intro g7 cap7 w7 hrow7 hgrew7; have hrow7H := lh hrow7; have hgrew7H := lh hgrew7; clear hrow7 hgrew7)
       have y7 := lh (hgrew7H.out.below hbH.out hbs.out (fun b hb => (hrowH.out.lt b hb).1))
       have hlen := lh (show ((addR (l.take k) s).1 ++ [s]).length = m + 1 by rw [List.length_append, List.length_singleton, hm.out])
       obtain ⟨A', c', e', hT', hA'⟩ := srow_tx hrow7H.out (by rw [hlen.out]; omega) (fun x hx => hsz.out x (by rw [hins.out]; exact hx))
       rw [hlen.out] at e'
       cases e'
       have hT'H := lh hT'
       have hA'H := lh hA'
       clear hT' hA'
       go_wp2_with fail
       go_ret
       exact ⟨some ⟨g7, 0, none⟩, cap7, by rw [hins.out, hlen.out]; rfl, by rw [hins.out]; exact hT'H.out, .inr (fun a ha => Nat.le_trans y2.out.size (hA'H.out a ha)), y2.out.trans (y7.out.mono y2.out.size)⟩
end Go.Proofs.YtbiioaggilaebaaGreatDoor.Pa
namespace Go.Proofs.YtbiioaggilaebaaGreatDoor.Pa
open Go Go.RowKit YtbiioaggilaebaaGreatDoorW.PrintWords B Tm Wi Dig
theorem rright5_c (note : ByteArray) (D : Option Addr) (dc : Nat) (deps : List ByteArray) (A : Option Addr) (ac : Nat) (ops : List Op) (w : World) (hD : TxAt w D dc deps) (hO : OpsAt w A ac ops) :
 Calls Tryz.prog 47 #[.agg #[.string note, .slice D deps.length dc, .slice A ops.length ac]] w fun e w' => e = .returned (.bool (pright note deps ops)) /\ Below w.heap.size w w' := by
 obtain ⟨g, hg⟩ : ∃ g, g = w.heap.size := ⟨_, rfl⟩
 obtain ⟨w1, hw1⟩ : ∃ w1, w1 = w.alloc (.cells #[.string note, .slice D deps.length dc, .slice A ops.length ac] 25) := ⟨_, rfl⟩
 have hb1 := lh (show Below w.heap.size w w1 by rw [hw1]; exact Wi.below_alloc _ _)
 have hP1 : PatAt w1 g note D deps.length dc A ops.length ac := by unfold PatAt; rw [hw1, hg]; exact heap_alloc_at _ _
 obtain ⟨R, hR⟩ : ∃ R, R = pright note deps ops := ⟨_, rfl⟩
 rw [<- hR]
 have hno' := lh (fun (h : pfits note deps ops = false) => show R = false by rw [hR]; unfold pright; rw [h, Bool.false_and])
 have hDH := lh hD
 have hOH := lh hO
 have hdl := hD.2.2.1
 have hds := hD.2.2.2
 have hal := hO.2.1
 have hac := hO.1
 have hdc := hD.2.1
 obtain ⟨nd, hnd⟩ : ∃ nd, nd = deps.length := ⟨_, rfl⟩
 obtain ⟨no, hno⟩ : ∃ no, no = ops.length := ⟨_, rfl⟩
 rw [<- hnd] at hw1 hP1 hdc hdl ⊢
 rw [<- hno] at hw1 hP1 hac hal ⊢
 have hdsH := lh hds
 have hgw := lh (show w.heap.size <= g by rw [hg]; exact Nat.le_refl _)
 clear hds hD hO
 replace hR := lh hR
 replace hnd := lh hnd
 replace hno := lh hno
 replace hP1 := lh hP1
 obtain ⟨p0, p1, p2, _, _⟩ := blk3' hP1.out
 go_enter Tryz.func47, Tryz.ntmps47
 go_upto_region 1 with fail
 rw [<- hw1, <- hg]
 replace hw1 := lh hw1
 replace hg := lh hg
 by_cases s1 : (100 : Int) < (note.size : Int)
 . have hf := lh (hno'.out (pfits_big (by omega)))
   go_wp2_with fail
   go_ret
   exact ⟨ret_b hf.out.symm, hb1.out⟩
 by_cases s2 : (64 : Int) < (nd : Int)
 . have hf := lh (hno'.out (pfits_big (by have := hnd.out; omega)))
   go_wp2_with fail
   go_ret
   exact ⟨ret_b hf.out.symm, hb1.out⟩
 by_cases s3 : (400 : Int) < (no : Int)
 . have hf := lh (hno'.out (pfits_big (by have := hno.out; omega)))
   go_wp2_with fail
   go_ret
   exact ⟨ret_b hf.out.symm, hb1.out⟩
 have hsizes := lh (show note.size <= 100 /\ deps.length <= 64 /\ ops.length <= 400 by have := hnd.out; have := hno.out; omega)
 have hnd64 : nd <= 64 := by omega
 have hno4 : no <= 400 := by omega
 go_upto_region 4 with fail
 clear s1 s2 s3 p0 p1 p2
 go_loopg [3] nd (fun g' i W => ∃ k : Nat, g' = nd - k /\ k <= nd /\ i = .int .i64 k /\ (∀ j, j < k -> okAt deps j = true) /\ Below w1.heap.size w1 W)
 case atStart => exact ⟨0, rfl, by omega, rfl, fun j hj => absurd hj (by omega), Below.refl _ _⟩
 case round =>
  obtain ⟨k, hg', hk, rfl, hok, hb⟩ := hrel
  subst hg'
  have hPr := lh (show PatAt wr g note D nd dc A no ac from (hb.block _ (heap_lt hP1.out)).trans hP1.out)
  have hbH := lh (hb1.out.trans (hb.mono hb1.out.size))
  have hbH' := lh hb
  obtain ⟨p0, p1, p2, _, _⟩ := blk3' hPr.out
  by_cases hkn : k < nd
  . have hki : (k : Int) < (nd : Int) := by omega
    have hkl : k < deps.length := by rw [<- hnd.out]; exact hkn
    obtain ⟨b, o, rfl, hcell⟩ := str_cell (Kd.C_below hDH.out.1 hbH.out) k hkl
    have hx := hdsH.out _ (getD_mem' deps k ByteArray.empty hkl)
    have CR := fun W => lh (rightRef (deps.getD k ByteArray.empty) W hx)
    have hok2 : okAt deps k = (rightL (deps.getD k ByteArray.empty).data.toList && (decide (k = 0) || Op.bytesLess (deps.getD (k - 1) ByteArray.empty).toList (deps.getD k ByteArray.empty).toList)) := rfl
    have hbad := lh (fun h => hno'.out (pfits_dep (note := note) (ops := ops) hkl h))
    have hprev : k ≠ 0 -> wr.cell? ⟨b, o + (k - 1), none⟩ = some (.string (deps.getD (k - 1) ByteArray.empty)) := by
     intro h0
     obtain ⟨b1, o1, hA, hcell1⟩ := str_cell (Kd.C_below hDH.out.1 hbH.out) (k - 1) (by omega)
     injection hA with hA
     injection hA with hA1 hA2 _
     subst hA1 hA2
     exact hcell1
    generalize deps.getD k ByteArray.empty = x at *
    generalize hrx : rightL x.data.toList = rx at *
    clear hrx hx
    replace hprev := lh hprev
    have hokH := lh hok
    have hgl := lh hbH'.out.size
    clear hb hok
    have hA := lh p1
    have hB := lh hcell
    cases rx with
    | false =>
     have hbd := lh (hbad.out hok2)
     clear hbad hok2 hprev
     go_upto_region 6 with fail
     have hA3 := Lat.cell hA.out
     have hB3 := Lat.cell hB.out
     refine wp_region_lat (by kernel_rfl) (by kernel_rfl) ?_
     repeat (go_big_quiet_step ((go_at_call 81; exact lat_of (CR _).out)))
     refine wpQuiet_nil ?_
     intro _ hw'
     obtain ⟨xl, hw''⟩ := hw'
     subst hw''
     have hb4 := lh xl.below
     clear hA3 hB3
     go_wp2_with fail
     go_ret
     exact ⟨ret_b hbd.out.symm, hbH.out.trans (hb4.out.mono hbH.out.size)⟩
    | true =>
     by_cases hk0 : k = 0
     . subst hk0
       have hki0 : ¬ (0 : Int) < ((0 : Nat) : Int) := by omega
       have hko : okAt deps 0 = true := by rw [hok2]; rfl
       have hkoH := lh hko
       clear hko hok2 hbad hprev
       go_upto_region 6 with fail
       have hA3 := Lat.cell hA.out
       have hB3 := Lat.cell (show wr.cell? ⟨b, o, none⟩ = some (.string x) from hB.out)
       refine wp_region_lat (by kernel_rfl) (by kernel_rfl) ?_
       repeat (go_big_quiet_step ((go_at_call 81; exact lat_of (CR _).out)))
       refine wpQuiet_nil ?_
       intro _ hw'
       obtain ⟨xl, hw''⟩ := hw'
       subst hw''
       have hb4 := lh xl.below
       clear hA3 hB3
       all_goals (try go_wp2_with fail)
       go_roundg (nd - 1)
       case measure => omega
       case rel => exact ⟨1, rfl, by omega, by go_num, fun j hj => by rw [show j = 0 from by omega]; exact hkoH.out, hbH'.out.trans (hb4.out.mono hgl.out)⟩
     . have hki0 : (0 : Int) < (k : Int) := by omega
       have hkp0 : 0 < k := by omega
       have hkw : IntKind.i64.wrap ((k : Int) - 1) = ((k - 1 : Nat) : Int) := by rw [show (k : Int) - 1 = ((k - 1 : Nat) : Int) from by omega]; exact Lib.wrap_i64_small _ (by omega)
       have hk1 : ((k - 1 : Nat) : Int) < (nd : Int) := by omega
       have hp := lh (hprev.out hk0)
       generalize deps.getD (k - 1) ByteArray.empty = y at *
       rw [decide_eq_false hk0, Bool.false_or, Bool.true_and] at hok2
       have hle := le_lt x.toList y.toList
       obtain ⟨lt, hlt⟩ : ∃ lt, lt = Op.bytesLess y.toList x.toList := ⟨_, rfl⟩
       rw [<- hlt] at hok2 hle
       replace hlt := lh hlt
       have hok2H := lh hok2
       clear hok2 hprev
       cases lt with
       | true =>
        simp only [Bool.not_true] at hle
        go_upto_region 6 with fail
        have hA3 := Lat.cell hA.out
        have hB3 := Lat.cell hB.out
        have hp3 := Lat.cell hp.out
        refine wp_region_lat (by kernel_rfl) (by kernel_rfl) ?_
        repeat (go_big_quiet_step ((go_at_call 81; exact lat_of (CR _).out)))
        refine wpQuiet_nil ?_
        intro _ hw'
        obtain ⟨xl, hw''⟩ := hw'
        subst hw''
        have hb4 := lh xl.below
        clear hA3 hB3 hp3
        all_goals (try go_wp2_with fail)
        all_goals go_roundg (nd - (k + 1))
        all_goals first | omega | exact ⟨k + 1, rfl, by omega, by go_num, fun j hj => by by_cases h : j < k; exact hokH.out j h; rw [show j = k from by omega]; exact hok2H.out, hbH'.out.trans (hb4.out.mono hgl.out)⟩
       | false =>
        simp only [Bool.not_false] at hle
        have hbd := lh (hbad.out hok2H.out)
        go_upto_region 6 with fail
        have hA3 := Lat.cell hA.out
        have hB3 := Lat.cell hB.out
        have hp3 := Lat.cell hp.out
        refine wp_region_lat (by kernel_rfl) (by kernel_rfl) ?_
        repeat (go_big_quiet_step ((go_at_call 81; exact lat_of (CR _).out)))
        refine wpQuiet_nil ?_
        intro _ hw'
        obtain ⟨xl, hw''⟩ := hw'
        subst hw''
        have hb4 := lh xl.below
        clear hA3 hB3 hp3
        all_goals (try go_wp2_with fail)
        all_goals go_ret
        all_goals exact ⟨ret_b hbd.out.symm, hbH.out.trans (hb4.out.mono hbH.out.size)⟩
  . have hkn' : k = nd := by omega
    subst hkn'
    have hki : ¬ (k : Int) < (k : Int) := by omega
    have hdep := lh (show ∀ j, j < deps.length -> okAt deps j = true from fun j hj => hok j (by rw [hnd.out]; exact hj))
    clear hok hb
    obtain ⟨wa, hwa⟩ : ∃ wa, wa = wr := ⟨_, rfl⟩
    subst hwa
    go_upto_region 10 with fail
    clear p0 p1 p2
    have hba := lh hbH.out
    have hPa := lh hPr.out
    go_loopg [5, 4] no (fun g' i o W => ∃ j : Nat, g' = no - j /\ j <= no /\ i = .int .i64 j /\ o = .int .i64 ((made (ops.take j) : Nat) : Int) /\ (∀ m x, m < j -> ops[m]? = some x -> opOk (made (ops.take m)) deps.length x = true) /\ Below wa.heap.size wa W)
    case atStart => exact ⟨0, rfl, by omega, rfl, rfl, fun m x hm => absurd hm (by omega), Below.refl _ _⟩
    case round =>
     obtain ⟨j, hg', hj, rfl, rfl, hok, hb⟩ := hrel
     subst hg'
     have hPr := lh (show PatAt wr g note D k dc A no ac from (hb.block _ (heap_lt hPa.out)).trans hPa.out)
     have hbH := lh (hba.out.trans (hb.mono hba.out.size))
     have hbH' := lh hb
     have hgl := lh hb.size
     have hokH := lh hok
     obtain ⟨p0, p1, p2, _, _⟩ := blk3' hPr.out
     obtain ⟨ow, how⟩ : ∃ ow, ow = made (ops.take j) := ⟨_, rfl⟩
     rw [<- how]
     clear hok hb
     by_cases hjn : j < no
     . have hji : (j : Int) < (no : Int) := by omega
       obtain ⟨⟨kk, ka, km, kb, kn, kl⟩, ho⟩ : ∃ o, ops[j]? = some o := ⟨ops[j]'(by rw [<- hno.out]; exact hjn), List.getElem?_eq_getElem _⟩
       obtain ⟨b, of, L, cl, hAe, o0, o1, o2, o3, o4, o5, hT⟩ := (hOH.out.below hbH.out).get j _ ho
       subst hAe
       have hTH := lh hT
       have hstep := made_step ops j _ ho
       have hmb := made_bound 140737488351232 (ops.take j) (fun o hoo => by
        obtain ⟨i, hi, rfl⟩ := List.getElem_of_mem (List.mem_of_mem_take hoo)
        obtain ⟨_, _, _, _, _, _, _, _, _, _, _, hTi⟩ := (hOH.out.below hbH.out).get i _ (List.getElem?_eq_getElem hi)
        exact hTi.2.2.1)
       have hlen := hT.2.2.1
       rw [<- how] at hstep hmb
       have hbound : ow + kl.length <= 401 * 140737488351232 := by
        have : (ops.take j).length <= 400 := by rw [List.length_take]; omega
        have := Nat.mul_le_mul_right 140737488351232 this
        show ow + (Op.mk kk ka km kb kn kl).ls.length <= _
        omega
       have CO := lh (fun W (h : Below wr.heap.size wr W) => rop_c ow k kk ka km kb kn kl L cl W (hTH.out.below h))
       have hopb := lh (fun h => hno'.out (pfits_opb (note := note) (deps := deps) ho h))
       have hk' := lh hnd.out
       rw [<- how] at hopb
       have hstepH := lh hstep
       have hoH := lh ho
       obtain ⟨nl, hnl⟩ : ∃ nl, nl = kl.length := ⟨_, rfl⟩
       have o5' : wr.cell? ⟨b, of + j * 6 + 5, none⟩ = some (.slice L nl cl) := by rw [hnl]; exact o5
       rw [<- hnl] at CO hbound
       have hwr : IntKind.i64.wrap ((ow : Int) + (nl : Int)) = ((ow + nl : Nat) : Int) := by rw [show (ow : Int) + (nl : Int) = ((ow + nl : Nat) : Int) from by omega]; exact Lib.wrap_i64_small _ (by omega)
       have howH := lh how
       replace hnl := lh hnl
       clear o5 hT hmb hlen hstep ho how
       obtain ⟨rv, hrv⟩ : ∃ rv, rv = opOk (ow : Int) (k : Int) ⟨kk, ka, km, kb, kn, kl⟩ := ⟨_, rfl⟩
       rw [<- hrv] at CO
       go_upto_region 12 with fail
       have a1 := Lat.cell p1
       have a2 := Lat.cell p2
       have b0 := Lat.cell o0
       have b1 := Lat.cell o1
       have b2 := Lat.cell o2
       have b3 := Lat.cell o3
       have b4 := Lat.cell o4
       have b5 := Lat.cell o5'
       replace hrv := lh hrv
       have LO := lh (fun x : Lat wr => lat_of (CO.out _ x.below))
       clear p0 p1 p2 o1 o2 o3 o4
       have o0H := lh o0
       have o5H := lh o5'
       clear o0 o5' CO
       refine wp_region_lat (by kernel_rfl) (by kernel_rfl) ?_
       repeat (go_big_quiet_step (fail))
       go_big_quiet_step ((go_at_call 82; exact LO.out _))
       repeat (go_big_quiet_step (fail))
       refine wpQuiet_nil ?_
       intro _ hw'
       obtain ⟨xl, hw''⟩ := hw'
       subst hw''
       have hb4 := lh xl.below
       clear a1 a2 b0 b1 b2 b3 b4 b5
       have hP4 := lh (show PatAt xl.val g note D k dc (some ⟨b, of, none⟩) no ac from (hb4.out.block _ (heap_lt hPr.out)).trans hPr.out)
       obtain ⟨p0, p1, p2, _, _⟩ := blk3' hP4.out
       have o0 := keepc hb4.out o0H.out
       have o5' := keepc hb4.out o5H.out
       cases rv with
       | false =>
        have hf := lh (hopb.out (by rw [<- hk'.out]; exact hrv.out.symm))
        go_wp2_with fail
        go_ret
        exact ⟨ret_b hf.out.symm, hbH.out.trans (hb4.out.mono hbH.out.size)⟩
       | true =>
        have okNext := lh (show ∀ m x, m < j + 1 -> ops[m]? = some x -> opOk (made (ops.take m)) deps.length x = true from fun m o hm ho => by
         by_cases e : m < j
         . exact hokH.out m o e ho
         . obtain rfl : m = j := by omega
           obtain rfl := Option.some.inj (hoH.out.symm.trans ho)
           rw [<- hk'.out, <- howH.out]
           exact hrv.out.symm)
        by_cases hk1 : kk = 1
        . subst hk1
          have hm1 := lh (show made (ops.take (j + 1)) = ow + nl by rw [hstepH.out, hnl.out]; rfl)
          go_wp2_with fail
          go_roundg (no - (j + 1))
          all_goals first | omega | exact ⟨j + 1, rfl, by omega, by go_num, by rw [hm1.out]; first | rfl | (congr 1; omega), okNext.out, hbH'.out.trans (hb4.out.mono hgl.out)⟩
        . have e1 : (kk == 1) = false := by rw [beq_eq_false_iff_ne]; exact hk1
          have hm1 := lh (show made (ops.take (j + 1)) = ow by rw [hstepH.out]; show ow + (if kk = 1 then kl.length else 0) = ow; rw [if_neg hk1]; rfl)
          clear hk1
          go_wp2_with fail
          go_roundg (no - (j + 1))
          all_goals first | omega | exact ⟨j + 1, rfl, by omega, by go_num, by rw [hm1.out], okNext.out, hbH'.out.trans (hb4.out.mono hgl.out)⟩
     . have hjn' : j = no := by omega
       subst hjn'
       have hji : ¬ (j : Int) < (j : Int) := by omega
       have hgood := lh (pfits_good hsizes.out hdep.out (fun m o ho => hokH.out m o (by rw [hno.out]; exact (List.getElem?_eq_some_iff.1 ho).1) ho))
       rw [List.take_of_length_le (by rw [<- hno.out]; exact Nat.le_refl _)] at how
       replace how := lh how
       by_cases h3 : (300 : Int) < (ow : Int)
       . have hf := lh (hno'.out (by rw [hgood.out, <- how.out]; simp; omega))
         go_wp2_with fail
         go_ret
         exact ⟨ret_b hf.out.symm, hbH.out⟩
       . have hfit : pfits note deps ops = true := by rw [hgood.out, <- how.out]; simp; omega
         have hpl := lh (pbytes_len hfit)
         have hRv := lh (show R = decide ((pform note deps ops).bytes.length <= 65536) by rw [hR.out]; unfold pright; rw [hfit, Bool.true_and]; rfl)
         have CF := rform_c note D dc deps A ac ops wr (hDH.out.below hbH.out) (hOH.out.below hbH.out) hfit
         rw [<- hnd.out, <- hno.out] at CF
         replace CF := lh CF
         clear hfit
         go_upto_region 18 with fail
         go_wp2_with fail
         refine (CF.out).mono ?_
         rintro ev w5 ⟨q, n, c, rfl, hFK, hb5⟩
         have hV5 := FK.toFV (B := w5.heap.size) (fun b ⟨_, h⟩ => h) _ _ hFK
         have hb5H := lh (hbH.out.trans (hb5.mono hbH.out.size))
         have CWo := lh (fun h => rwrite_c (pform note deps ops) _ _ _ w5 hV5 (pform_right _ _ _) (by have := pform_depth note deps ops; omega) h)
         have CWb := lh (fun h => rwrite_big (pform note deps ops) _ _ _ w5 hV5 (pform_right _ _ _) (by have := pform_depth note deps ops; omega) h (by have : (pform note deps ops).bytes.length <= 300000 := hpl.out; omega))
         clear hFK hV5 hb5
         by_cases hsz : (pform note deps ops).bytes.length <= 65536
         . have CW := lh (CWo.out hsz)
           have hRt := lh (show R = true by rw [hRv.out, decide_eq_true hsz])
           clear hsz CWo CWb
           generalize (⟨(pform note deps ops).bytes.toArray⟩ : ByteArray) = tx at CW
           go_wp2_with fail
           refine (CW.out).mono ?_
           rintro ev w6 ⟨rfl, hb6⟩
           have hb6H := lh (hb5H.out.trans (hb6.mono hb5H.out.size))
           clear hb6
           go_wp2_with fail
           go_ret
           exact ⟨ret_b hRt.out.symm, hb6H.out⟩
         . have CW := lh (CWb.out (by omega))
           have hRt := lh (show R = false by rw [hRv.out, decide_eq_false hsz])
           clear hsz CWo CWb
           go_wp2_with fail
           refine (CW.out).mono ?_
           rintro ev w6 ⟨rfl, hb6⟩
           have hb6H := lh (hb5H.out.trans (hb6.mono hb5H.out.size))
           clear hb6
           go_wp2_with fail
           go_ret
           exact ⟨ret_b hRt.out.symm, hb6H.out⟩
end Go.Proofs.YtbiioaggilaebaaGreatDoor.Pa
namespace Go.Proofs.YtbiioaggilaebaaGreatDoor.Pa
open Go Go.RowKit YtbiioaggilaebaaGreatDoorW.PrintWords B Tm Wi
def rwrOf (note : ByteArray) (deps : List ByteArray) (ops : List Op) : Value :=
 if pright note deps ops then .tuple #[.string ⟨(pbytes note deps ops).toArray⟩, .int .i64 0] else .tuple #[.string ⟨#[]⟩, .int .i64 10]
def rnmOf (note : ByteArray) (deps : List ByteArray) (ops : List Op) : Value :=
 if pright note deps ops then .tuple #[.string (pname note deps ops), .int .i64 0] else .tuple #[.string ⟨#[]⟩, .int .i64 10]
theorem pright_fits {note : ByteArray} {deps : List ByteArray} {ops : List Op} (h : pright note deps ops = true) : pfits note deps ops = true := by
 unfold pright at h
 rw [Bool.and_eq_true] at h
 exact h.1
theorem rwrite5_c (note : ByteArray) (D : Option Addr) (dc : Nat) (deps : List ByteArray) (A : Option Addr) (ac : Nat) (ops : List Op) (w : World) (hD : TxAt w D dc deps) (hO : OpsAt w A ac ops) :
 Calls Tryz.prog 16 #[.agg #[.string note, .slice D deps.length dc, .slice A ops.length ac]] w fun e w' => e = .returned (rwrOf note deps ops) /\ Below w.heap.size w w' := by
 obtain ⟨w1, hw1⟩ : ∃ w1, w1 = w.alloc (.cells #[.string note, .slice D deps.length dc, .slice A ops.length ac] 25) := ⟨_, rfl⟩
 have hb1 := lh (show Below w.heap.size w w1 by rw [hw1]; exact Wi.below_alloc _ _)
 have hP1 : PatAt w1 w.heap.size note D deps.length dc A ops.length ac := by unfold PatAt; rw [hw1]; exact heap_alloc_at _ _
 have CR := rright5_c note D dc deps A ac ops w1 (hD.below hb1.out) (hO.below hb1.out)
 have CF := fun (h : pfits note deps ops = true) W (hW : Below w.heap.size w W) => lh (rform_c note D dc deps A ac ops W (hD.below hW) (hO.below hW) h)
 obtain ⟨R, hR⟩ : ∃ R, R = rwrOf note deps ops := ⟨_, rfl⟩
 rw [<- hR]
 obtain ⟨nd, hnd⟩ : ∃ nd, nd = deps.length := ⟨_, rfl⟩
 obtain ⟨no, hno⟩ : ∃ no, no = ops.length := ⟨_, rfl⟩
 rw [<- hnd, <- hno] at hw1 hP1 CR CF ⊢
 replace hnd := lh hnd
 replace hno := lh hno
 obtain ⟨p0, p1, p2, _, _⟩ := blk3' hP1
 replace hP1 := lh hP1
 clear hD hO
 unfold rwrOf at hR
 cases hr : pright note deps ops with
 | false =>
  rw [hr] at CR hR
  simp only [Bool.false_eq_true, if_false] at hR
  replace CR := lh CR
  replace hR := lh hR
  clear hr CF
  go_enter Tryz.func16, Tryz.ntmps16
  go_upto_region 1 with fail
  rw [<- hw1]
  replace hw1 := lh hw1
  go_wp2_with fail
  refine (CR.out).mono ?_
  rintro ev w2 ⟨rfl, hb2⟩
  replace hb2 := lh (hb1.out.trans (hb2.mono hb1.out.size))
  go_wp2_with fail
  go_ret2
  exact ⟨by rw [hR.out]; rfl, hb2.out⟩
 | true =>
  have hl := lh (show (pform note deps ops).bytes.length <= 65536 from pright_len hr)
  replace CF := lh (fun W hW => (CF (pright_fits hr) W hW).out)
  rw [hr] at CR hR
  simp only [if_true] at hR
  replace CR := lh CR
  have hR' : R = .tuple #[.string ⟨(pform note deps ops).bytes.toArray⟩, .int .i64 0] := hR
  replace hR := lh hR'
  clear hr hR'
  go_enter Tryz.func16, Tryz.ntmps16
  go_upto_region 1 with fail
  rw [<- hw1]
  replace hw1 := lh hw1
  go_wp2_with fail
  refine (CR.out).mono ?_
  rintro ev w2 ⟨rfl, hb2⟩
  have hP2 := lh (show PatAt w2 w.heap.size note D nd dc A no ac from (hb2.block _ (heap_lt hP1.out)).trans hP1.out)
  replace hb2 := lh (hb1.out.trans (hb2.mono hb1.out.size))
  clear p0 p1 p2
  obtain ⟨p0, p1, p2, _, _⟩ := blk3' hP2.out
  go_upto_region 3 with fail
  go_wp2_with fail
  refine (CF.out w2 hb2.out).mono ?_
  rintro ev w5 ⟨q, n, c, rfl, hFK, hb5⟩
  have hV5 := FK.toFV (B := w5.heap.size) (fun b ⟨_, h⟩ => h) _ _ hFK
  have hb5H := lh (hb2.out.trans (hb5.mono hb2.out.size))
  have CW := lh (rwrite_c (pform note deps ops) _ _ _ w5 hV5 (pform_right _ _ _) (by have := pform_depth note deps ops; omega) hl.out)
  clear hFK hV5 hb5
  obtain ⟨tx, htx⟩ : ∃ tx : ByteArray, tx = ⟨(pform note deps ops).bytes.toArray⟩ := ⟨_, rfl⟩
  rw [<- htx] at CW hR
  replace htx := lh htx
  go_wp2_with fail
  refine (CW.out).mono ?_
  rintro ev w6 ⟨rfl, hb6⟩
  have hb6H := lh (hb5H.out.trans (hb6.mono hb5H.out.size))
  clear hb6
  go_wp2_with fail
  go_ret2
  exact ⟨by rw [hR.out]; rfl, hb6H.out⟩
theorem rname5_c (note : ByteArray) (D : Option Addr) (dc : Nat) (deps : List ByteArray) (A : Option Addr) (ac : Nat) (ops : List Op) (w : World) (hD : TxAt w D dc deps) (hO : OpsAt w A ac ops) :
 Calls Tryz.prog 17 #[.agg #[.string note, .slice D deps.length dc, .slice A ops.length ac]] w fun e w' => e = .returned (rnmOf note deps ops) /\ Below w.heap.size w w' := by
 obtain ⟨w1, hw1⟩ : ∃ w1, w1 = w.alloc (.cells #[.string note, .slice D deps.length dc, .slice A ops.length ac] 25) := ⟨_, rfl⟩
 have hb1 := lh (show Below w.heap.size w w1 by rw [hw1]; exact Wi.below_alloc _ _)
 have hP1 : w1.heap[w.heap.size]? = some (.cells #[.string note, .slice D deps.length dc, .slice A ops.length ac] 25 (0, 0)) := by rw [hw1]; exact heap_alloc_at _ _
 have CW := rwrite5_c note D dc deps A ac ops w1 (hD.below hb1.out) (hO.below hb1.out)
 obtain ⟨R, hR⟩ : ∃ R, R = rnmOf note deps ops := ⟨_, rfl⟩
 rw [<- hR]
 obtain ⟨nd, hnd⟩ : ∃ nd, nd = deps.length := ⟨_, rfl⟩
 obtain ⟨no, hno⟩ : ∃ no, no = ops.length := ⟨_, rfl⟩
 rw [<- hnd, <- hno] at hw1 hP1 CW ⊢
 replace hnd := lh hnd
 replace hno := lh hno
 obtain ⟨p0, p1, p2, _, _⟩ := blk3' hP1
 clear hD hO hP1
 unfold rnmOf at hR
 unfold rwrOf at CW
 cases hr : pright note deps ops with
 | false =>
  rw [hr] at CW hR
  simp only [Bool.false_eq_true, if_false] at CW hR
  replace CW := lh CW
  replace hR := lh hR
  clear hr
  go_enter Tryz.func17, Tryz.ntmps17
  go_upto_region 1 with fail
  rw [<- hw1]
  replace hw1 := lh hw1
  go_wp2_with fail
  refine (CW.out).mono ?_
  rintro ev w2 ⟨rfl, hb2⟩
  replace hb2 := lh (hb1.out.trans (hb2.mono hb1.out.size))
  go_wp2_with fail
  go_ret2
  exact ⟨by rw [hR.out]; rfl, hb2.out⟩
 | true =>
  rw [hr] at CW hR
  simp only [if_true] at CW hR
  obtain ⟨s, hs⟩ : ∃ s : ByteArray, s = ⟨(pbytes note deps ops).toArray⟩ := ⟨_, rfl⟩
  rw [<- hs] at CW
  have hsl : s.data.toList = pbytes note deps ops := by rw [hs]
  have hss : s.size <= 65536 := by rw [<- toList_size, hsl]; exact pright_len hr
  have CS := fun W => lh (Ref.RSum_any s (by omega) W)
  have CH := fun W => lh (Dig.rHex_any (Sha.sha Sha.K Sha.H0 s) (by rw [Sha.sha_size]; omega) W)
  have hnm : (⟨(Sha.hexL (Sha.sha Sha.K Sha.H0 s).data.toList).toArray⟩ : ByteArray) = pname note deps ops := by
   unfold pname Sha.nameL Sha.sha
   rw [hsl, List.toList_toArray]
  rw [hnm] at CH
  generalize Sha.sha Sha.K Sha.H0 s = d at *
  replace CW := lh CW
  replace hR := lh hR
  replace hs := lh hs
  clear hr hsl hss hnm
  generalize pname note deps ops = nm at *
  go_enter Tryz.func17, Tryz.ntmps17
  go_upto_region 1 with fail
  rw [<- hw1]
  replace hw1 := lh hw1
  go_wp2_with fail
  refine (CW.out).mono ?_
  rintro ev w2 ⟨rfl, hb2⟩
  replace hb2 := lh (hb1.out.trans (hb2.mono hb1.out.size))
  go_wp2_with fail
  refine ((CS w2).out).mono ?_
  rintro ev w3 ⟨rfl, ht⟩
  have hb3 := lh (hb2.out.trans ((tch_bel ht).mono hb2.out.size))
  clear ht
  go_wp2_with fail
  refine ((CH w3).out).mono ?_
  rintro ev w4 ⟨rfl, ht⟩
  have hb4 := lh (hb3.out.trans ((tch_bel ht).mono hb3.out.size))
  clear ht
  go_wp2_with fail
  go_ret2
  exact ⟨by rw [hR.out]; rfl, hb4.out⟩
end Go.Proofs.YtbiioaggilaebaaGreatDoor.Pa
