/- The part of a set that has these names (a closure of OrderBegins). -/
import Derived.Test.YtalkhiggapbfjaaOrE
set_option linter.unusedVariables false
set_option linter.unusedSimpArgs false
namespace Go.Proofs.Ytalkhiggapbfjaa.Orp
open Go Go.RowKit Go.Proofs.Ytalkhiggapbfjaa.B Go.Proofs.Ytalkhiggapbfjaa.St Go.Proofs.Ytalkhiggapbfjaa.Mp
open Go.Proofs.Ytalkhiggapbfjaa.Hp (ltB le tob ltB_iff)
theorem infoN : ∃ i, Try.prog.info? 34 = some i ∧ i.zero = some (.agg #[.string ⟨#[]⟩, .string ⟨#[]⟩, .slice none 0 0, .slice none 0 0]) ∧ i.size = 4 ∧ i.bytes = 80 := by
  have h : (Try.prog.info? 34).map (fun i => (i.zero, i.size, i.bytes)) = some (some (.agg #[.string ⟨#[]⟩, .string ⟨#[]⟩, .slice none 0 0, .slice none 0 0]), 4, 80) := by kernel_rfl
  match hi : Try.prog.info? 34, h with
  | some i, h =>
    simp only [Option.map_some, Option.some.injEq, Prod.mk.injEq] at h
    exact ⟨i, rfl, h.1, h.2.1, h.2.2⟩
/-- A set that a call builds out of another's patches. -/
def NRow (base : Nat) (W : World) (v : Value) (xs : List Nx) : Prop := W.ownsRow base 34 4 v xs.length (xs.flatMap fun x => x.cells.toList)
theorem NRow.nil (base : Nat) (W : World) : NRow base W (.slice none 0 0) [] := ⟨rfl, .inl ⟨rfl, rfl⟩⟩
theorem NRow.lt {base : Nat} {W : World} {v : Value} {xs : List Nx} (h : NRow base W v xs) (k : Nat) (hk : v.ownBlock = some k) : base ≤ k ∧ k < W.heap.size := by
  have := World.ownsRow.lt h k hk
  exact ⟨this.1, this.2⟩
theorem NRow.shape {base : Nat} {W : World} {v : Value} {xs : List Nx} (h : NRow base W v xs) : ∃ A cap, v = .slice A xs.length cap := by
  rcases h.2 with ⟨rfl, h0⟩ | ⟨g, cap, cur, rfl, _⟩
  · exact ⟨none, 0, by rw [h0]⟩
  · exact ⟨_, cap, rfl⟩
theorem NRow.same {base : Nat} {W W' : World} {v : Value} {xs : List Nx} (h : NRow base W v xs) (hk : ∀ b, v.ownBlock = some b → W'.heap[b]? = W.heap[b]?) : NRow base W' v xs := by
  obtain ⟨k1, k2⟩ := h
  refine ⟨k1, ?_⟩
  rcases k2 with k2 | ⟨g, cap, cur, rfl, e2, e3, e4⟩
  · exact .inl k2
  · exact .inr ⟨g, cap, cur, rfl, e2, (hk g rfl).trans e3, e4⟩
theorem flat_at : ∀ (xs : List Nx) (j : Nat) (hj : j < xs.length) (i : Nat), i < 4 → (xs.flatMap fun x => x.cells.toList)[j * 4 + i]? = (xs[j].cells)[i]?
  | x :: xs, 0, _, i, hi => by
    rw [List.flatMap_cons, Nat.zero_mul, Nat.zero_add, List.getElem?_append_left (by show i < 4; exact hi), Array.getElem?_toList]
    rfl
  | x :: xs, j + 1, hj, i, hi => by
    rw [List.flatMap_cons, List.getElem?_append_right (by show 4 ≤ _; omega), show (j + 1) * 4 + i - x.cells.toList.length = j * 4 + i by show (j + 1) * 4 + i - 4 = _; omega, flat_at xs j (by simpa using hj) i hi]
    rfl
theorem NRow.set {base : Nat} {W : World} {v : Value} {xs : List Nx} (h : NRow base W v xs) (hl : xs.length ≤ 140737488351232) (hs : ∀ z ∈ xs, z.nm.size ≤ 140737488351232 ∧ TAt W z.D z.dc z.deps) : ∃ A c, v = .slice A xs.length c ∧ SetAt W A c xs := by
  rcases h.2 with ⟨rfl, h0⟩ | ⟨g, cap, cur, rfl, e2, e3, e4, e5, e6, e7⟩
  · exact ⟨none, 0, by rw [h0], by omega, hl, fun h => by omega, hs⟩
  · refine ⟨_, cap, rfl, e4, hl, fun _ => ⟨g, 0, rfl, fun j hj i hi => ?_⟩, hs⟩
    rw [Nat.zero_add, cell_of e3, ← flat_at xs j hj i hi, ← e7, List.getElem?_take, if_pos (by omega), Array.getElem?_toList]
theorem nx_app {ops : Array Oper} {rest : List Oper} {o : Oper} {a : Act} {Q : Exit → Act → World → Prop} {base : Nat} {w : World} {v : Value} {xs : List Nx} {x : Nx} (hgd : o.guard = none) (s y : Operand) (t : TypeId)
    (ho : o.op = .call { callee := .builtin .append, args := #[s, y], argTypes := #[t, t] }) (ht : Try.prog.underlying t = some (.slice 34))
    (hs : a.eval s = v) (n c H : Nat) (hH : w.heap.size = H) (hx : a.eval y = .slice (some ⟨H, 0, none⟩) 1 c) (hrow : NRow base w v xs) (hn : xs.length = n) (hb : n ≤ 1000000) (hbase : base ≤ w.heap.size)
    (h : ∀ v' w', NRow base w' v' (xs ++ [x]) → Grew v w w' → (v'.ownBlock = v.ownBlock ∨ ∀ k, v'.ownBlock = some k → w.heap.size < k) → wpList Try.prog ops Q rest (a.put o.dst v') w') :
    wpList Try.prog ops Q (o :: rest) a (w.alloc (.cells #[.string x.nm, .string x.note, .slice x.D x.deps.length x.dc, .slice x.O x.on x.oc] 34)) := by
  subst hn
  subst hH
  obtain ⟨iF, hiF, hzF, hsF, hbF⟩ := infoN
  have hown := hrow
  unfold NRow at hown
  refine wpList_append_lies _ hgd s y t ho base 34 iF _ 4 80 ht hiF hzF hsF hbF rfl (by omega) v xs.length _ hs (hown.alloc _) ⟨w.heap.size, 0, none⟩ 1 c x.cells.toList hx rfl (World.news_of_block (heap_alloc_at w _)) (fun u hu => by
    unfold Nx.cells at hu
    simp only [List.mem_cons, List.not_mem_nil, or_false] at hu
    rcases hu with rfl | rfl | rfl | rfl <;> rfl) (by omega) (by unfold maxLen; omega) (by omega) (by simp; omega) (w.heap.size + 1) (by simp) ?_
  intro g cap w' hown' hgrow hat hlt
  have hsz := hgrow.size
  rw [St.size_alloc] at hsz
  refine h _ w' ?_ ⟨by omega, hgrow.os, hgrow.tape, hgrow.output, fun k h1 h2 => (hgrow.block k (by rw [St.size_alloc]; omega) h2).trans (heap_alloc_lt w _ _ h1)⟩ ?_
  · unfold NRow
    rw [List.flatMap_append, List.length_append]
    simpa using hown'
  · rcases hat with e | e
    · exact .inl e.symm
    · exact .inr fun k hk => by have : g = k := Option.some.inj hk; omega
theorem RAt.keep {w w' : World} {A : Option Addr} {l : List ByteArray} (h : RAt w A l) (hb : Below w.heap.size w w') : RAt w' A l := fun h0 => by
  obtain ⟨b, o, e, hc⟩ := h h0
  exact ⟨b, o, e, fun j hj => (hb.cell (World.block_lt_of_cell? w _ (hc j hj))).trans (hc j hj)⟩
def OnlyP (zs : List Nx) (q : List ByteArray) (w : World) (e : Ending) (w' : World) : Prop := ∃ v, e = .returned v ∧ NRow w.heap.size w' v (zs.filter fun z => inB q z.nm) ∧ Below w.heap.size w w'
set_option maxRecDepth 100000 in
set_option maxHeartbeats 1000000 in
theorem only_c (A : Option Addr) (c : Nat) (zs : List Nx) (Aq : Option Addr) (cq : Nat) (q : List ByteArray) (w : World) (H1 : Nat) (hS : SetAt w A c zs) (hz : zs.length ≤ 1000) (hq : RAt w Aq q) (hql : q.length ≤ 1000000) (hH : w.heap[H1]? = some (.cells #[.slice A zs.length c] 22 (0, 0))) :
    Calls Try.prog 8 #[.slice Aq q.length cq, .pointer (some ⟨H1, 0, none⟩)] w (OnlyP zs q w) := by
  obtain ⟨m, hm⟩ : ∃ m, q.length = m := ⟨_, rfl⟩
  rw [hm]
  have hmH := Lib.hid hm
  have hc1 := cell_of hH 0
  have hSH := Lib.hid hS
  have hqH := Lib.hid hq
  clear hS hq hH hm
  go_enter Try.func8, Try.ntmps8
  go_wp2_with fail
  go_loopw [4, 9] (fun ov iv wr => ∃ k : Nat, k ≤ zs.length ∧ iv = .int .i64 k ∧ NRow w.heap.size wr ov ((zs.take k).filter fun z => inB q z.nm) ∧ Below w.heap.size w wr) (fun _ iv _ => zs.length - (intOf iv).toNat)
  case atStart => exact ⟨0, Nat.zero_le _, rfl, NRow.nil _ _, Below.refl _ _⟩
  case round =>
    obtain ⟨k, hk, rfl, hrow, hB⟩ := hrel
    obtain ⟨Ao, co, ho⟩ := hrow.shape
    obtain ⟨n, hn⟩ : ∃ n, ((zs.take k).filter fun z => inB q z.nm).length = n := ⟨_, rfl⟩
    have hn1 : n ≤ 1000 := by
      have h1 := List.length_filter_le (fun z : Nx => inB q z.nm) (zs.take k)
      rw [List.length_take] at h1
      omega
    rw [hn] at ho
    subst ho
    by_cases hlt : k < zs.length
    · obtain ⟨b, o, rfl, c0, c1, c2, c3⟩ := (hSH.out.below hB).get k hlt
      obtain ⟨x, hx⟩ : ∃ x, x = zs[k] := ⟨_, rfl⟩
      rw [← hx] at c0 c1 c2 c3
      have htk : zs.take (k + 1) = zs.take k ++ [x] := by rw [List.take_succ_eq_append_getElem hlt, hx]
      have hws := hB.size
      have hBH := Lib.hid (fun o => hB.alloc hB.size o)
      have hrowH := Lib.hid (fun o => (hrow.same (W' := wr.alloc o) fun j hj => heap_alloc_lt _ _ _ (hrow.lt j hj).2))
      have hRw : ∀ o, RAt (wr.alloc o) Aq q := fun o => RAt.keep hqH.out (hB.alloc hB.size o)
      have hnH := Lib.hid hn
      have hltr := Lib.hid hrow.lt
      replace htk := Lib.hid htk
      replace hx := Lib.hid hx
      clear hrow hB hn
      by_cases hin : x.nm ∈ q
      · have hflt : (zs.take (k + 1)).filter (fun z => inB q z.nm) = (zs.take k).filter (fun z => inB q z.nm) ++ [x] := by
          rw [htk.out, List.filter_append, List.filter_cons_of_pos (by simpa using inB_iff.2 hin)]
          rfl
        replace hflt := Lib.hid hflt
        replace hin := Lib.hid hin
        go_wp2_with fail
        have hpl := place_c Aq cq q x.nm _ (hRw (.cells #[.string x.nm, .string x.note, .slice x.D x.deps.length x.dc, .slice x.O x.on x.oc] 34)) hql
        rw [hmH.out] at hpl
        refine hpl.mono ?_
        rintro e w2 ⟨z, rfl, hz0, hz1, hz2, rfl⟩
        have hz3 := hz0.2 hin.out
        clear hz0 hpl
        have hrW := Lib.hid (hrowH.out (.cells #[.string x.nm, .string x.note, .slice x.D x.deps.length x.dc, .slice x.O x.on x.oc] 34))
        have hBW := Lib.hid (hBH.out (.cells #[.string x.nm, .string x.note, .slice x.D x.deps.length x.dc, .slice x.O x.on x.oc] 34))
        have hsW : w.heap.size ≤ (wr.alloc (.cells #[.string x.nm, .string x.note, .slice x.D x.deps.length x.dc, .slice x.O x.on x.oc] 34)).heap.size := hBW.out.size
        replace hsW := Lib.hid hsW
        go_wp2_with (at_builtin; go_loud (refine nx_app (base := w.heap.size) (x := x) rfl _ _ 22 rfl Try.underlying22 rfl n 1 (wr.heap.size + 1) (St.size_alloc _ _) rfl hrW.out hnH.out (by omega) hsW.out ?_; intro v3 w3 hr3 hg3 hl3; replace hr3 := Lib.hid hr3; replace hg3 := Lib.hid hg3; replace hl3 := Lib.hid hl3))
        go_roundw
        case rel => exact ⟨k + 1, by omega, by go_num, by rw [hflt.out]; exact hr3.out, below_grew hBW.out hsW.out hg3.out (fun j hj => (hrW.out.lt j hj).1)⟩
        case measure => simp [intOf]; omega
      · have hflt : (zs.take (k + 1)).filter (fun z => inB q z.nm) = (zs.take k).filter (fun z => inB q z.nm) := by
          rw [htk.out, List.filter_append, List.filter_cons_of_neg (by simpa using fun h => hin (inB_iff.1 h))]
          simp
        replace hflt := Lib.hid hflt
        replace hin := Lib.hid hin
        go_wp2_with fail
        have hpl := place_c Aq cq q x.nm _ (hRw (.cells #[.string x.nm, .string x.note, .slice x.D x.deps.length x.dc, .slice x.O x.on x.oc] 34)) hql
        rw [hmH.out] at hpl
        refine hpl.mono ?_
        rintro e w2 ⟨z, rfl, hz0, hz1, hz2, rfl⟩
        have hz3 : z < 0 := by
          rcases Int.lt_or_le z 0 with h | h
          · exact h
          · exact absurd (hz0.1 h) hin.out
        clear hz0 hpl
        go_wp2_with fail
        go_roundw
        case rel => exact ⟨k + 1, by omega, by go_num, by rw [hflt.out]; exact hrowH.out _, hBH.out _⟩
        case measure => simp [intOf]; omega
    · obtain rfl : k = zs.length := by omega
      rw [List.take_of_length_le (Nat.le_refl _)] at hrow
      replace hrow := Lib.hid hrow
      replace hB := Lib.hid hB
      clear hn
      go_wp2_with fail
      go_ret
      exact ⟨_, rfl, hrow.out, hB.out⟩
end Go.Proofs.Ytalkhiggapbfjaa.Orp
