/- A row of bytes that grows, the string's own mark and all. -/
import Derived.Test.YtpecclcihefbaaaDoorRefG
import Derived.ArgAppend
set_option linter.unusedVariables false
set_option linter.unusedSimpArgs false
namespace Go.Proofs.YtpecclcihefbaaaDoor.Ref
open Go.RowKit Go.Proofs.YtpecclcihefbaaaDoor.B Go.Proofs.YtpecclcihefbaaaDoor.Sha

def RowB (w : World) (base : Nat) (v : Value) (n : Nat) (l : List UInt8) : Prop := ∃ g cap cells fz, v = .slice (some ⟨g, 0, none⟩) n cap ∧ l.length = n ∧ base ≤ g ∧ w.heap[g]? = some (.cells cells 5 fz) ∧ cells.size = cap ∧ n ≤ cap ∧ cap ≤ maxLen ∧
  cells.toList.take n = bc l ∧ (fz = (0, 0) ∨ cap ≤ fz.1)
theorem RowB.cells {w : World} {base : Nat} {n g cap : Nat} {l : List UInt8} (h : RowB w base (.slice (some ⟨g, 0, none⟩) n cap) n l) : ∀ k, k < n → w.cell? ⟨g, k, none⟩ = some (.int .u8 ((l.getD k 0).toNat : Int)) := by
  obtain ⟨g', cap', cells, fz, hv, hl, _, hg, _, _, _, ht, _⟩ := h
  injection hv with e1 e2 e3
  injection e1 with e1
  injection e1 with e1
  subst e1
  intro k hk
  rw [cell_of hg, ← Array.getElem?_toList, ← show (cells.toList.take n)[k]? = cells.toList[k]? from by rw [List.getElem?_take, if_pos hk], ht, bc_get _ _ (by omega), List.getD_eq_getElem?_getD, List.getElem?_eq_getElem (by omega)]
  rfl
theorem RowB.keep {w w' : World} {base n : Nat} {v : Value} {l : List UInt8} (h : RowB w base v n l) (ht : Tch (fun _ => False) w w') : RowB w' base v n l := by
  obtain ⟨g, cap, cells, fz, a, b, c, d, e⟩ := h
  exact ⟨g, cap, cells, fz, a, b, c, ht.heap d (fun e => e), e⟩

theorem rowB_append (ty : TypeId) (w : World) (base : Nat) (v : Value) (n : Nat) (l : List UInt8) (b : UInt8) (h : RowB w base v n l) (ad : Addr) (c : Nat) (hc : w.cell? ad = some (.int .u8 (b.toNat : Int))) (hl : n + 1 ≤ 140737488355328) (hb : base ≤ w.heap.size) :
    ∃ g cap w', (Builtin.append_ #[48, 48] ty #[v, .slice (some ad) 1 c]).run Tryd.prog w = .ok (.slice (some ⟨g, 0, none⟩) (n + 1) cap) w' ∧ RowB w' base (.slice (some ⟨g, 0, none⟩) (n + 1) cap) (n + 1) (l ++ [b]) ∧ Below base w w' := by
  obtain ⟨g, cap, cells, fz, rfl, hll, hbg, hg, hcs, hnc, hcm, ht, hfz⟩ := h
  obtain ⟨i8, hi8, hz8, hs8, hb8⟩ := info8
  have hadd : ad.add 0 = ad := by unfold Addr.add; split <;> simp_all
  have hnews : ∀ j u, ([Value.int .u8 (b.toNat : Int)] : List Value)[j]? = some u → w.cell? (ad.add j) = some u := by
    intro j u hj
    match j, hj with
    | 0, hj => rw [hadd, hc]; simpa using hj
  by_cases hroom : n + 1 ≤ cap
  · have hr := run_append_room_cells (P := Tryd.prog) w 48 ty 5 i8 Tryd.underlying48 hi8 g 0 n cap ad 1 c [.int .u8 (b.toNat : Int)] (by simp [hs8]) hnews (by simp [Value.oneCell']) hroom
      (by intro j hj; obtain rfl : j = 0 := by simpa using hj
          rw [cell_of hg, hs8, Array.getElem?_eq_getElem (by omega)]; rfl)
      (by intro j hj; obtain rfl : j = 0 := by simpa using hj
          unfold World.frozen?; rw [hg, hs8]
          rcases hfz with rfl | hfz
          · simp
          · simp; omega)
    refine ⟨g, cap, _, hr, ?_, ?_⟩
    · rw [hs8, show 0 + n * 1 = n from by omega]
      refine ⟨g, cap, cells.setIfInBounds n (.int .u8 (b.toNat : Int)), fz, rfl, by simp [hll], hbg, ?_, by simp [hcs], hroom, hcm, ?_, hfz⟩
      · exact heap_set_some hg n _
      · rw [bc_append, ← ht, Array.toList_setIfInBounds, List.take_add_one, List.take_set_of_le (Nat.le_refl _), List.getElem?_set_self (by rw [Array.length_toList]; omega)]
        rfl
    · rw [hs8]; exact (Below.refl _ _).setCell hbg _
  · have holds : ∀ j u, (bc l)[j]? = some u → w.cell? ((⟨g, 0, none⟩ : Addr).add j) = some u := by
      intro j u hj
      have hjn : j < n := by
        have := (List.getElem?_eq_some_iff.1 hj).1
        rw [bc_length] at this; omega
      rw [add0, cell_of hg, ← Array.getElem?_toList, ← show (cells.toList.take n)[j]? = cells.toList[j]? from by rw [List.getElem?_take, if_pos hjn], ht, hj]
    obtain ⟨v', w', hr, ho, hgr⟩ := run_append_arg_grows (P := Tryd.prog) w 48 ty 5 i8 _ 1 1 Tryd.underlying48 hi8 hz8 hs8 hb8 rfl (by omega) ⟨g, 0, none⟩ n cap (bc l) (by rw [bc_length]; omega) holds ad 1 c [.int .u8 (b.toNat : Int)] rfl hnews (by omega) (by unfold maxLen; omega) (by omega)
    obtain ⟨_, h0 | ⟨g', cap', cur, rfl, hbg', hg', hnc', hcm', hcs', ht'⟩⟩ := ho
    · exact absurd h0.2 (by omega)
    · refine ⟨g', cap', w', hr, ⟨g', cap', cur, (0, 0), rfl, by simp [hll], by omega, hg', by omega, hnc', hcm', ?_, .inl rfl⟩, ?_⟩
      · rw [bc_append]; rw [Nat.mul_one] at ht'; exact ht'
      · exact ⟨hgr.os, hgr.tape, hgr.output, hgr.size, fun k hk => hgr.block k (by omega) (by simp)⟩

theorem wpList_rowB {ops : Array Oper} {rest : List Oper} {o : Oper} {a : Act} {w : World} {Q : Exit → Act → World → Prop} (hgd : o.guard = none) (s x : Operand)
    (ho : o.op = .call { callee := .builtin .append, args := #[s, x], argTypes := #[48, 48] })
    (base : Nat) (v : Value) (n : Nat) (l : List UInt8) (b : UInt8) (hs : a.eval s = v) (h : RowB w base v n l) (ad : Addr) (c : Nat) (hx : a.eval x = .slice (some ad) 1 c)
    (hc : w.cell? ad = some (.int .u8 (b.toNat : Int))) (hl : n + 1 ≤ 140737488355328) (hb : base ≤ w.heap.size)
    (hk : ∀ g cap w', RowB w' base (.slice (some ⟨g, 0, none⟩) (n + 1) cap) (n + 1) (l ++ [b]) → Below base w w' → wpList Tryd.prog ops Q rest (a.put o.dst (.slice (some ⟨g, 0, none⟩) (n + 1) cap)) w') : wpList Tryd.prog ops Q (o :: rest) a w := by
  refine wpList_plain hgd fun K hK => ?_
  obtain ⟨g, cap, w', hr, h2, h3⟩ := rowB_append o.type w base v n l b h ad c hc hl hb
  unfold Oper.wp execOp
  simp only [ho, resolve, invoke, builtin, Sem.run_bind, Sem.run_pure, Result.andThen_ok, List.map_toArray, List.map_cons, List.map_nil, hs, hx, hr]
  exact hK _ _ (hk g cap w' h2 h3)

end Go.Proofs.YtpecclcihefbaaaDoor.Ref
