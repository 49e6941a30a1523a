/- What LawPatchCommutes lean on, part l of 29: the texts TmI, Prefx0, Pbottomx0, Ptopx0, Popx0, RefH, TmN, TmJ. -/
import Derived.Test.YtbiioaggilaebaaGreatDoorTWa
import Derived.Test.YtbiioaggilaebaaGreatDoorTWb
import Derived.Test.YtbiioaggilaebaaGreatDoorTWg
import Derived.Test.YtbiioaggilaebaaGreatDoorTWk
import Derived.Handy
import Derived.Test.YtbiioaggilaebaaGreatDoorProg
import Derived.Below
import Derived.Deep.Draws
import Derived.Deep.AppendLies
import Derived.Maps.AppendAt
import Derived.OwnWalk
import Derived.Laws.BytesArg
import Derived.Laws.MakeOwn
import Derived.Laws.OwnMore
import Derived.Deep.OwnRows
import Derived.Tactics
import Derived.Lib.ConvBytes
import Derived.Laws.Slices
import Derived.WalkKit
import Derived.KernelRfl
import Derived.RowKit3
import Derived.Deep.LoopGhost
import Derived.Deep.QuietTactic
import Derived.BigQuiet
import Derived.WideLaws
import Derived.Deep.DeepCutAuto
import Derived.Deep.CutBlock
import Derived.Deep.RegionHeld3
import Derived.Laws.Rows
import Derived.Lib.AppendStr
import Derived.ArgAppend
import Derived.Laws.IdiomCopy
import Derived.OrdersHeld
import Derived.Laws.BitsLemmas
import Derived.RowKit
set_option linter.unusedVariables false
set_option linter.unusedSimpArgs false
namespace Go.Proofs.YtbiioaggilaebaaGreatDoor.Tm
open Go Go.RowKit Go.Proofs.YtbiioaggilaebaaGreatDoor.B Go.Proofs.YtbiioaggilaebaaGreatDoor.Bld Go.Proofs.YtbiioaggilaebaaGreatDoor.Sha
def ItemPost (g deep : Nat) (s : ByteArray) (w : World) (ev : Ending) (w' : World) : Prop :=
  ∃ f c0 c1 c2 ok r, ev = .returned (.tuple #[.agg #[c0, c1, c2], .bool ok]) ∧ FK (fun b => w.heap.size ≤ b ∧ b < w'.heap.size) w' f [c0, c1, c2] ∧ RdAt w' g r ∧ ItemSpec deep s.data.toList f ok r.data.toList ∧ Tch (fun k => k = g) w w'
theorem results_cell_tmp {P : Program} {fn : Func} {p q : Tmp} {ty : TypeId} (h : fn.results = #[.cell p ty, .tmp q]) (tmps : Array Value) (w : World) (g : Nat) (t : TypeId) (cs : Array Value) (fr : Nat × Nat) (d : TypeDesc)
    (hp : tmps.getD p undef = .pointer (some ⟨g, 0, none⟩)) (hg : w.heap[g]? = some (.cells cs t fr))
    (hu : P.underlying ty = some d) (hd : (match d with | .struct _ | .array _ _ => true | _ => false) = true) (hi : (P.info? ty).map (·.size) = some cs.size) (v : Value) (hq : tmps.getD q undef = v) :
    (results fn tmps).run P w = .ok (.tuple #[.agg cs, v]) w := by
  have hp' : tmps[p]?.getD undef = .pointer (some ⟨g, 0, none⟩) := by simpa using hp
  have hq' : tmps[q]?.getD undef = v := by simpa using hq
  simp [results, h, hp', hq', asAddr, run_loadVar_row w g t ty cs fr d hg hu hd hi]
theorem tch_set3 {w w' : World} {S : Nat → Prop} {g : Nat} (h : Tch S w w') (hg : w.heap.size ≤ g) (x y z : Value) : Tch S w (((w'.setCell ⟨g, 0, none⟩ x).setCell ⟨g, 1, none⟩ y).setCell ⟨g, 2, none⟩ z) :=
  ((h.setNew ⟨g, 0, none⟩ hg x).setNew ⟨g, 1, none⟩ hg y).setNew ⟨g, 2, none⟩ hg z
theorem set3_ne {w : World} {g k : Nat} (h : k ≠ g) (x y z : Value) : (((w.setCell ⟨g, 0, none⟩ x).setCell ⟨g, 1, none⟩ y).setCell ⟨g, 2, none⟩ z).heap[k]? = w.heap[k]? := by
  rw [heap_set_ne _ _ _ _ h, heap_set_ne _ _ _ _ h, heap_set_ne _ _ _ _ h]
set_option maxRecDepth 100000 in
set_option maxHeartbeats 4000000 in
theorem item_text_c (g deep : Nat) (s : ByteArray) (w : World) (hg : RdAt w g s) (hs : s.size ≤ 65536) (h0 : s.data.toList[0]? ≠ some 40) :
    Calls Tryz.prog 93 #[.pointer (some ⟨g, 0, none⟩), .int .i64 deep] w (ItemPost g deep s w) := by
  obtain ⟨w0, hw0⟩ : ∃ w0, w0 = w.alloc (.cells #[.bool false, .string ⟨#[]⟩, .slice none 0 0] 74) := ⟨_, rfl⟩
  have hg0 : RdAt w0 g s := by rw [hw0]; unfold RdAt; rw [heap_alloc_lt _ _ _ (heap_lt hg)]; exact hg
  have hr0 : w0.heap[w.heap.size]? = some (.cells #[.bool false, .string ⟨#[]⟩, .slice none 0 0] 74 (0, 0)) := by rw [hw0]; exact heap_alloc_at _ _
  have ht0 : Tch (fun k => k = g) w w0 := by rw [hw0]; exact (Tch.refl _ _).alloc _
  have hne : w.heap.size ≠ g := by have := heap_lt hg; omega
  have hc0 : w0.cell? ⟨g, 0, none⟩ = some (.string s) := by rw [cell_of hg0]; rfl
  have CP := Tryz.strings_HasPrefix s ⟨#[40]⟩ w0
  have hpre : Lib.hasPrefix s.data.toList (⟨#[40]⟩ : ByteArray).data.toList = false := by
    show [40].isPrefixOf s.data.toList = false
    generalize s.data.toList = l at *
    cases l with
    | nil => rfl
    | cons a l =>
      simp only [List.getElem?_cons_zero, ne_eq, Option.some.injEq] at h0
      simp [List.isPrefixOf]
      intro e; exact absurd e.symm h0
  rw [hpre] at CP
  have CL := length_c g s w0 hg0 hs
  have CPH := Lib.hid CP
  have CLH := Lib.hid CL
  have hsz0 : w0.heap.size = w.heap.size + 1 := by rw [hw0]; simp
  replace hg0 := Lib.hid hg0
  replace hr0 := Lib.hid hr0
  replace ht0 := Lib.hid ht0
  replace hne := Lib.hid hne
  replace h0 := Lib.hid h0
  replace hsz0 := Lib.hid hsz0
  replace hs := Lib.hid hs
  clear CP CL hpre hg
  go_enter Tryz.func93, Tryz.ntmps93
  go_upto_region 1 with fail
  rw [← hw0]
  replace hw0 := Lib.hid hw0
  go_wp2_with fail
  refine (CPH.out).mono ?_
  rintro ev w1 ⟨rfl, rfl⟩
  go_wp2_with fail
  refine (CLH.out).mono ?_
  rintro ev w2 ⟨n, ok, r, rfl, hg2, hl2, ht2⟩
  have hr2 := Lib.hid (ht2.heap hr0.out hne.out)
  have ht2H := Lib.hid (ht0.out.trans ht2)
  have hg2H := Lib.hid hg2
  have hrs : r.size ≤ s.size := by have := hl2.1; rwa [toList_size, toList_size] at this
  have hlt : w.heap.size < w2.heap.size := Nat.lt_of_lt_of_le (by rw [hsz0.out]; omega) ht2.size
  have hc2 : w2.cell? ⟨g, 0, none⟩ = some (.string r) := by rw [cell_of hg2]; rfl
  have hf2 : w2.frozen? ⟨g, 0, none⟩ = false := fr_of hg2 0
  clear ht2 hg2
  cases ok with
  | false =>
    have hsp := Lib.hid (item_notext (deep := deep) h0.out (by rw [toList_size]; exact hs.out) hl2 rfl (.mk false [] []))
    clear hl2
    have k0 : w2.cell? ⟨w.heap.size, 0, none⟩ = some (.bool false) := by rw [cell_of hr2.out]; rfl
    have k1 : w2.cell? ⟨w.heap.size, 1, none⟩ = some (.string ⟨#[]⟩) := by rw [cell_of hr2.out]; rfl
    have k2 : w2.cell? ⟨w.heap.size, 2, none⟩ = some (.slice none 0 0) := by rw [cell_of hr2.out]; rfl
    have hsh : w2.shape? w.heap.size = some (74, 3) := by simp [World.shape?, hr2.out]
    have hfz := fr_of hr2.out
    go_wp2_with fail
    (try simp only [Exit.inBlock, Exit.then])
    refine bodyPost_ret (results_cell_tmp rfl _ _ w.heap.size 74 #[.bool false, .string ⟨#[]⟩, .slice none 0 0] (0, 0) _ rfl (set3 hr2.out) Tryz.underlying74 rfl (by kernel_rfl) _ rfl) rfl ?_
    refine ⟨.mk false [] [], _, _, _, false, r, rfl, FK.text _ _ ⟨#[]⟩, ?_, hsp.out, tch_set3 ht2H.out (Nat.le_refl _) _ _ _⟩
    unfold RdAt
    rw [set3_ne (fun e => hne.out e.symm)]
    exact hg2H.out
  | true =>
    obtain ⟨hn0, hnr, _⟩ := hl2.2.1 rfl
    obtain ⟨m, rfl⟩ : ∃ m : Nat, n = (m : Int) := ⟨n.toNat, by omega⟩
    have hmr : m ≤ r.size := by rw [toList_size] at hnr; omega
    have hmri : (m : Int) ≤ (r.size : Int) := by omega
    have hsp := Lib.hid (item_text (deep := deep) h0.out (by rw [toList_size]; exact hs.out) hl2 rfl)
    rw [show ((m : Int)).toNat = m from by omega] at hsp
    clear hl2 hn0 hnr
    go_wp2_with fail
    refine (text_c _ w2).mono ?_
    rintro ev w3 ⟨rfl, hb3⟩
    unfold vtext
    have ht3 := Lib.hid (ht2H.out.trans (Tch.of_new (S := fun k => k = g) hb3))
    have hr3 := (hb3.block _ (heap_lt hr2.out)).trans hr2.out
    have hg3 : RdAt w3 g r := (hb3.block _ (heap_lt hg2H.out)).trans hg2H.out
    obtain ⟨w4, hw4⟩ : ∃ w4, w4 = w3.alloc (.cells #[.bool false, .string (r.extract 0 m), .slice none 0 0] 74) := ⟨_, rfl⟩
    have hx4 : w4.heap[w3.heap.size]? = some (.cells #[.bool false, .string (r.extract 0 m), .slice none 0 0] 74 (0, 0)) := by rw [hw4]; exact heap_alloc_at _ _
    have hr4 := Lib.hid (show w4.heap[w.heap.size]? = some (.cells #[.bool false, .string ⟨#[]⟩, .slice none 0 0] 74 (0, 0)) from by rw [hw4, heap_alloc_lt _ _ _ (heap_lt hr3)]; exact hr3)
    have hg4 := Lib.hid (show RdAt w4 g r by unfold RdAt; rw [hw4, heap_alloc_lt _ _ _ (heap_lt hg3)]; exact hg3)
    have ht4 := Lib.hid (show Tch (fun k => k = g) w w4 by rw [hw4]; exact ht3.out.alloc _)
    have j0 : w4.cell? ⟨w3.heap.size, 0, none⟩ = some (.bool false) := by rw [cell_of hx4]; rfl
    have j1 : w4.cell? ⟨w3.heap.size, 1, none⟩ = some (.string (r.extract 0 m)) := by rw [cell_of hx4]; rfl
    have j2 : w4.cell? ⟨w3.heap.size, 2, none⟩ = some (.slice none 0 0) := by rw [cell_of hx4]; rfl
    have k0 : w4.cell? ⟨w.heap.size, 0, none⟩ = some (.bool false) := by rw [cell_of hr4.out]; rfl
    have k1 : w4.cell? ⟨w.heap.size, 1, none⟩ = some (.string ⟨#[]⟩) := by rw [cell_of hr4.out]; rfl
    have k2 : w4.cell? ⟨w.heap.size, 2, none⟩ = some (.slice none 0 0) := by rw [cell_of hr4.out]; rfl
    have hsh : w4.shape? w.heap.size = some (74, 3) := by simp [World.shape?, hr4.out]
    have hfz := fr_of hr4.out
    have hc4 : w4.cell? ⟨g, 0, none⟩ = some (.string r) := by rw [cell_of hg4.out]; rfl
    have hf4 : w4.frozen? ⟨g, 0, none⟩ = false := fr_of hg4.out 0
    have hq := heap_lt hg3
    have hq2 := heap_lt hr3
    have hn1 : ¬ g = w3.heap.size := by omega
    have hn2 : ¬ w3.heap.size = g := by omega
    have hn3 : ¬ w.heap.size = w3.heap.size := by omega
    have hn4 : ¬ w3.heap.size = w.heap.size := by omega
    have hn5 : ¬ w.heap.size = g := hne.out
    have hn6 : ¬ g = w.heap.size := fun e => hne.out e.symm
    clear hr3 hg3 hb3 hx4
    go_upto_region 16 with fail
    rw [← hw4]
    replace hw4 := Lib.hid hw4
    go_wp2_with fail
    (try simp only [Exit.inBlock, Exit.then])
    have hr5 : (w4.setCell ⟨g, 0, none⟩ (.string (r.extract m r.size))).heap[w.heap.size]? = some (.cells #[.bool false, .string ⟨#[]⟩, .slice none 0 0] 74 (0, 0)) := by
      rw [heap_set_ne _ _ _ _ hn5]; exact hr4.out
    refine bodyPost_ret (results_cell_tmp rfl _ _ w.heap.size 74 #[.bool false, .string (r.extract 0 m), .slice none 0 0] (0, 0) _ rfl (set3 hr5) Tryz.underlying74 rfl (by kernel_rfl) _ rfl) rfl ?_
    have e1 : (r.extract 0 m).data.toList = r.data.toList.take m := by rw [Lib.extract_data]; simp
    refine ⟨txt (r.data.toList.take m), _, _, _, true, r.extract m r.size, rfl, by rw [← e1]; exact FK.text _ _ _, ?_, by rw [extract_toList]; exact hsp.out, tch_set3 (ht4.out.setCell ⟨g, 0, none⟩ (fun _ => rfl) _) (Nat.le_refl _) _ _ _⟩
    unfold RdAt
    rw [set3_ne (fun e => hne.out e.symm)]
    exact rdAt_set hg4.out _
end Go.Proofs.YtbiioaggilaebaaGreatDoor.Tm
namespace Go.Proofs.YtbiioaggilaebaaGreatDoor.Pref
open Go.RowKit Go.Proofs.YtbiioaggilaebaaGreatDoorW.PrintWords Go.Proofs.YtbiioaggilaebaaGreatDoorW.PrintLast Go.Proofs.YtbiioaggilaebaaGreatDoorW.PrintMore
attribute [local go_sem] max2_int min2_int max_two min_two max_three min_three max_four min_four   -- for this text's walks alone
set_option linter.unusedVariables false
set_option linter.unusedSimpArgs false
def errW : Option Int → Value
  | none => .nilIface
  | some c => .iface 0 (.int .i64 c)
theorem errW_none : errW none = .nilIface := rfl
theorem errW_some (c : Int) : errW (some c) = .iface 0 (.int .i64 c) := rfl
end Go.Proofs.YtbiioaggilaebaaGreatDoor.Pref
namespace Go.Proofs.YtbiioaggilaebaaGreatDoor.Pbottom
open Go.RowKit Go.Proofs.YtbiioaggilaebaaGreatDoorW.PrintWords Go.Proofs.YtbiioaggilaebaaGreatDoorW.PrintLast Go.Proofs.YtbiioaggilaebaaGreatDoorW.PrintMore
attribute [local go_sem] max2_int min2_int max_two min_two max_three min_three max_four min_four   -- for this text's walks alone
set_option linter.unusedVariables false
set_option linter.unusedSimpArgs false
def errW : Option Int → Value
  | none => .nilIface
  | some c => .iface 0 (.int .i64 c)
theorem errW_none : errW none = .nilIface := rfl
theorem errW_some (c : Int) : errW (some c) = .iface 0 (.int .i64 c) := rfl
end Go.Proofs.YtbiioaggilaebaaGreatDoor.Pbottom
namespace Go.Proofs.YtbiioaggilaebaaGreatDoor.Ptop
open Go.RowKit Go.Proofs.YtbiioaggilaebaaGreatDoorW.PrintWords Go.Proofs.YtbiioaggilaebaaGreatDoorW.PrintLast Go.Proofs.YtbiioaggilaebaaGreatDoorW.PrintMore
attribute [local go_sem] max2_int min2_int max_two min_two max_three min_three max_four min_four   -- for this text's walks alone
set_option linter.unusedVariables false
set_option linter.unusedSimpArgs false
def errW : Option Int → Value
  | none => .nilIface
  | some c => .iface 0 (.int .i64 c)
theorem errW_none : errW none = .nilIface := rfl
theorem errW_some (c : Int) : errW (some c) = .iface 0 (.int .i64 c) := rfl
end Go.Proofs.YtbiioaggilaebaaGreatDoor.Ptop
namespace Go.Proofs.YtbiioaggilaebaaGreatDoor.Pop
open Go.RowKit Go.Proofs.YtbiioaggilaebaaGreatDoorW.PrintWords Go.Proofs.YtbiioaggilaebaaGreatDoorW.PrintLast Go.Proofs.YtbiioaggilaebaaGreatDoorW.PrintMore
attribute [local go_sem] max2_int min2_int max_two min_two max_three min_three max_four min_four   -- for this text's walks alone
set_option linter.unusedVariables false
set_option linter.unusedSimpArgs false
def errW : Option Int → Value
  | none => .nilIface
  | some c => .iface 0 (.int .i64 c)
theorem errW_none : errW none = .nilIface := rfl
theorem errW_some (c : Int) : errW (some c) = .iface 0 (.int .i64 c) := rfl
end Go.Proofs.YtbiioaggilaebaaGreatDoor.Pop
set_option linter.unusedVariables false
set_option linter.unusedSimpArgs false
namespace Go.Proofs.YtbiioaggilaebaaGreatDoor.Ref
open Go.RowKit Go.Proofs.YtbiioaggilaebaaGreatDoor.B Go.Proofs.YtbiioaggilaebaaGreatDoor.Sha
def RowB (w : World) (base : Nat) (v : Value) (n : Nat) (l : List UInt8) : Prop := ∃ g cap cells fz, v = .slice (some ⟨g, 0, none⟩) n cap ∧ l.length = n ∧ base ≤ g ∧ w.heap[g]? = some (.cells cells 5 fz) ∧ cells.size = cap ∧ n ≤ cap ∧ cap ≤ maxLen ∧
  cells.toList.take n = bc l ∧ (fz = (0, 0) ∨ cap ≤ fz.1)
theorem RowB.cells {w : World} {base : Nat} {n g cap : Nat} {l : List UInt8} (h : RowB w base (.slice (some ⟨g, 0, none⟩) n cap) n l) : ∀ k, k < n → w.cell? ⟨g, k, none⟩ = some (.int .u8 ((l.getD k 0).toNat : Int)) := by
  obtain ⟨g', cap', cells, fz, hv, hl, _, hg, _, _, _, ht, _⟩ := h
  injection hv with e1 e2 e3
  injection e1 with e1
  injection e1 with e1
  subst e1
  intro k hk
  rw [cell_of hg, ← Array.getElem?_toList, ← show (cells.toList.take n)[k]? = cells.toList[k]? from by rw [List.getElem?_take, if_pos hk], ht, bc_get _ _ (by omega), List.getD_eq_getElem?_getD, List.getElem?_eq_getElem (by omega)]
  rfl
theorem RowB.keep {w w' : World} {base n : Nat} {v : Value} {l : List UInt8} (h : RowB w base v n l) (ht : Tch (fun _ => False) w w') : RowB w' base v n l := by
  obtain ⟨g, cap, cells, fz, a, b, c, d, e⟩ := h
  exact ⟨g, cap, cells, fz, a, b, c, ht.heap d (fun e => e), e⟩
theorem rowB_append (ty : TypeId) (w : World) (base : Nat) (v : Value) (n : Nat) (l : List UInt8) (b : UInt8) (h : RowB w base v n l) (ad : Addr) (c : Nat) (hc : w.cell? ad = some (.int .u8 (b.toNat : Int))) (hl : n + 1 ≤ 140737488355328) (hb : base ≤ w.heap.size) :
    ∃ g cap w', (Builtin.append_ #[69, 69] ty #[v, .slice (some ad) 1 c]).run Tryz.prog w = .ok (.slice (some ⟨g, 0, none⟩) (n + 1) cap) w' ∧ RowB w' base (.slice (some ⟨g, 0, none⟩) (n + 1) cap) (n + 1) (l ++ [b]) ∧ Below base w w' := by
  obtain ⟨g, cap, cells, fz, rfl, hll, hbg, hg, hcs, hnc, hcm, ht, hfz⟩ := h
  obtain ⟨i8, hi8, hz8, hs8, hb8⟩ := info8
  have hadd : ad.add 0 = ad := by unfold Addr.add; split <;> simp_all
  have hnews : ∀ j u, ([Value.int .u8 (b.toNat : Int)] : List Value)[j]? = some u → w.cell? (ad.add j) = some u := by
    intro j u hj
    match j, hj with
    | 0, hj => rw [hadd, hc]; simpa using hj
  by_cases hroom : n + 1 ≤ cap
  · have hr := run_append_room_cells (P := Tryz.prog) w 69 ty 5 i8 Tryz.underlying69 hi8 g 0 n cap ad 1 c [.int .u8 (b.toNat : Int)] (by simp [hs8]) hnews (by simp [Value.oneCell']) hroom
      (by intro j hj; obtain rfl : j = 0 := by simpa using hj
          rw [cell_of hg, hs8, Array.getElem?_eq_getElem (by omega)]; rfl)
      (by intro j hj; obtain rfl : j = 0 := by simpa using hj
          unfold World.frozen?; rw [hg, hs8]
          rcases hfz with rfl | hfz
          · simp
          · simp; omega)
    refine ⟨g, cap, _, hr, ?_, ?_⟩
    · rw [hs8, show 0 + n * 1 = n from by omega]
      refine ⟨g, cap, cells.setIfInBounds n (.int .u8 (b.toNat : Int)), fz, rfl, by simp [hll], hbg, ?_, by simp [hcs], hroom, hcm, ?_, hfz⟩
      · exact heap_set_some hg n _
      · rw [bc_append, ← ht, Array.toList_setIfInBounds, List.take_add_one, List.take_set_of_le (Nat.le_refl _), List.getElem?_set_self (by rw [Array.length_toList]; omega)]
        rfl
    · rw [hs8]; exact (Below.refl _ _).setCell hbg _
  · have holds : ∀ j u, (bc l)[j]? = some u → w.cell? ((⟨g, 0, none⟩ : Addr).add j) = some u := by
      intro j u hj
      have hjn : j < n := by
        have := (List.getElem?_eq_some_iff.1 hj).1
        rw [bc_length] at this; omega
      rw [add0, cell_of hg, ← Array.getElem?_toList, ← show (cells.toList.take n)[j]? = cells.toList[j]? from by rw [List.getElem?_take, if_pos hjn], ht, hj]
    obtain ⟨v', w', hr, ho, hgr⟩ := run_append_arg_grows (P := Tryz.prog) w 69 ty 5 i8 _ 1 1 Tryz.underlying69 hi8 hz8 hs8 hb8 rfl (by omega) ⟨g, 0, none⟩ n cap (bc l) (by rw [bc_length]; omega) holds ad 1 c [.int .u8 (b.toNat : Int)] rfl hnews (by omega) (by unfold maxLen; omega) (by omega)
    obtain ⟨_, h0 | ⟨g', cap', cur, rfl, hbg', hg', hnc', hcm', hcs', ht'⟩⟩ := ho
    · exact absurd h0.2 (by omega)
    · refine ⟨g', cap', w', hr, ⟨g', cap', cur, (0, 0), rfl, by simp [hll], by omega, hg', by omega, hnc', hcm', ?_, .inl rfl⟩, ?_⟩
      · rw [bc_append]; rw [Nat.mul_one] at ht'; exact ht'
      · exact ⟨hgr.os, hgr.tape, hgr.output, hgr.size, fun k hk => hgr.block k (by omega) (by simp)⟩
theorem wpList_rowB {ops : Array Oper} {rest : List Oper} {o : Oper} {a : Act} {w : World} {Q : Exit → Act → World → Prop} (hgd : o.guard = none) (s x : Operand)
    (ho : o.op = .call { callee := .builtin .append, args := #[s, x], argTypes := #[69, 69] })
    (base : Nat) (v : Value) (n : Nat) (l : List UInt8) (b : UInt8) (hs : a.eval s = v) (h : RowB w base v n l) (ad : Addr) (c : Nat) (hx : a.eval x = .slice (some ad) 1 c)
    (hc : w.cell? ad = some (.int .u8 (b.toNat : Int))) (hl : n + 1 ≤ 140737488355328) (hb : base ≤ w.heap.size)
    (hk : ∀ g cap w', RowB w' base (.slice (some ⟨g, 0, none⟩) (n + 1) cap) (n + 1) (l ++ [b]) → Below base w w' → wpList Tryz.prog ops Q rest (a.put o.dst (.slice (some ⟨g, 0, none⟩) (n + 1) cap)) w') : wpList Tryz.prog ops Q (o :: rest) a w := by
  refine wpList_plain hgd fun K hK => ?_
  obtain ⟨g, cap, w', hr, h2, h3⟩ := rowB_append o.type w base v n l b h ad c hc hl hb
  unfold Oper.wp execOp
  simp only [ho, resolve, invoke, builtin, Sem.run_bind, Sem.run_pure, Result.andThen_ok, List.map_toArray, List.map_cons, List.map_nil, hs, hx, hr]
  exact hK _ _ (hk g cap w' h2 h3)
end Go.Proofs.YtbiioaggilaebaaGreatDoor.Ref
set_option linter.unusedVariables false
set_option linter.unusedSimpArgs false
namespace Go.Proofs.YtbiioaggilaebaaGreatDoor.Tm
open Go Go.RowKit Go.Proofs.YtbiioaggilaebaaGreatDoor.B Go.Proofs.YtbiioaggilaebaaGreatDoor.Bld
def Errs (w : World) : Prop := (∃ ev, w.cell? ⟨3, 0, none⟩ = some ev ∧ (ev = .nilIface ∨ ∃ te pe, ev = .iface te pe)) ∧ ∃ ev, w.cell? ⟨4, 0, none⟩ = some ev ∧ (ev = .nilIface ∨ ∃ te pe, ev = .iface te pe)
theorem Errs.below {w w' : World} (h : Errs w) (hb : Below w.heap.size w w') : Errs w' := by
  obtain ⟨⟨e1, h1, k1⟩, e2, h2, k2⟩ := h
  exact ⟨⟨e1, (hb.cell (World.block_lt_of_cell? w _ h1)).trans h1, k1⟩, e2, (hb.cell (World.block_lt_of_cell? w _ h2)).trans h2, k2⟩
theorem below_bytes (w : World) (e : TypeId) (s : ByteArray) : Below w.heap.size w (Lib.bytesWorld w e s) := by
  unfold Lib.bytesWorld
  have h : Below w.heap.size w (w.drew.alloc (.cells (Lib.bytesCells w e s) e)) := ((Below.refl w.heap.size w).drew).alloc (Nat.le_refl _) _
  refine ⟨h.os, h.tape, h.output, ?_, fun k hk => ?_⟩
  · simp [World.freeze]
  · rw [← h.block k hk]
    simp [World.freeze, Array.getElem?_modify]
    intro e; omega
def AtoiPost (s : ByteArray) (w : World) (ev : Ending) (w' : World) : Prop :=
  ∃ x er, ev = .returned (.tuple #[.int .i64 x, er]) ∧ (er = .nilIface ∨ ∃ N, er = .iface 241 (.pointer (some ⟨N, 0, none⟩))) ∧ (-9223372036854775808 ≤ x ∧ x ≤ 9223372036854775807) ∧
    (∀ n, -9223372036854775808 ≤ n → n ≤ 9223372036854775807 → s.data.toList = Lib.itoa n → er = .nilIface ∧ x = n) ∧ Below w.heap.size w w'
theorem atoi_any (s : ByteArray) (hs : s.size ≤ 140737488355328) (w : World) (he : Errs w) : Calls Tryz.prog 134 #[.string s] w (AtoiPost s w) := by
  obtain ⟨⟨e1, h1, k1⟩, e2, h2, k2⟩ := he
  rcases h : Lib.atoiAll s.data.toList with v | _ | _
  · refine (Tryz.strconv_Atoi_ok s (by omega) v h w).mono ?_
    rintro ev w' ⟨rfl, hw⟩
    refine ⟨v, _, rfl, .inl rfl, Lib.atoiAll_bounds h, fun n n0 n1 hn => ⟨rfl, ?_⟩, ?_⟩
    · rw [hn, atoi_itoa n n0 n1] at h
      injection h with h
      exact h.symm
    · rcases hw with rfl | ⟨t, rfl⟩
      · exact Below.refl _ _
      · exact below_bytes _ _ _
  · refine (Any.strconv_Atoi_syntax Tryz.laysC172 s (by omega) h e1 w h1 k1).mono ?_
    rintro ev w' ⟨N, rfl, _, _, hb⟩
    refine ⟨_, _, rfl, .inr ⟨N, rfl⟩, by omega, fun n n0 n1 hn => ?_, hb⟩
    rw [hn, atoi_itoa n n0 n1] at h
    cases h
  · refine (Tryz.strconv_Atoi_range s (by omega) h e2 w h2 k2).mono ?_
    rintro ev w' ⟨N, rfl, _, _, hb⟩
    refine ⟨_, _, rfl, .inr ⟨N, rfl⟩, atoiSat_bounds _, fun n n0 n1 hn => ?_, hb⟩
    rw [hn, atoi_itoa n n0 n1] at h
    cases h
theorem itoa_int (n : Int) (h0 : -9223372036854775808 ≤ n) (h1 : n ≤ 9223372036854775807) (w : World) (h : Tab w) :
    Calls Tryz.prog 77 #[.int .i64 n] w fun e w' => e = .returned (.string ⟨(Lib.itoa n).toArray⟩) ∧ Below w.heap.size w w' := by
  refine (Tryz.strconv_Itoa n h0 h1 w h).mono ?_
  rintro e w' ⟨rfl, k, os, rfl⟩
  exact ⟨rfl, grow_below w k os⟩
def errno (n : Int) : Value := .iface 54 (.int .i64 n)
def NumPost (fb : Bool) (t : ByteArray) (nl : Nat) (least most : Int) (w : World) (ev : Ending) (w' : World) : Prop :=
  ∃ x er, ev = .returned (.tuple #[.int .i64 x, er]) ∧ (er = .nilIface ∨ er = errno 5) ∧ (er = .nilIface → least ≤ x ∧ x ≤ most) ∧
    (∀ n, least ≤ n → n ≤ most → fb = false → nl = 0 → t.data.toList = Lib.itoa n → er = .nilIface ∧ x = n) ∧ Below w.heap.size w w'
def NumBad (er : Value) (fb : Bool) (nl : Nat) (x : Int) (t : ByteArray) (least most : Int) (bad : Bool) : Prop :=
  (bad = false → er = .nilIface ∧ least ≤ x ∧ x ≤ most) ∧ (er = .nilIface → fb = false → nl = 0 → t.data.toList = Lib.itoa x → least ≤ x → x ≤ most → bad = false)
set_option maxRecDepth 100000 in
set_option maxHeartbeats 8000000 in
theorem number_c (fb : Bool) (t : ByteArray) (A : Option Addr) (nl c : Nat) (least most : Int) (hlo : -9223372036854775808 ≤ least) (hmo : most ≤ 9223372036854775807) (ht : t.size ≤ 140737488355328) (hnl : nl ≤ 140737488355328) (w : World) (he : Errs w) (htab : Tab w) :
    Calls Tryz.prog 94 #[.agg #[.bool fb, .string t, .slice A nl c], .int .i64 least, .int .i64 most] w (NumPost fb t nl least most w) := by
  obtain ⟨w0, hw0⟩ : ∃ w0, w0 = w.alloc (.cells #[.bool fb, .string t, .slice A nl c] 74) := ⟨_, rfl⟩
  have hb0 : Below w.heap.size w w0 := by rw [hw0]; exact (Below.refl _ _).alloc (Nat.le_refl _) _
  have hx0 : w0.heap[w.heap.size]? = some (.cells #[.bool fb, .string t, .slice A nl c] 74 (0, 0)) := by rw [hw0]; exact heap_alloc_at _ _
  have hc0 : w0.cell? ⟨w.heap.size, 1, none⟩ = some (.string t) := by rw [cell_of hx0]; rfl
  have CA := Lib.hid (atoi_any t ht w0 (he.below hb0))
  replace hx0 := Lib.hid hx0
  replace hb0 := Lib.hid hb0
  replace htab := Lib.hid htab
  clear he
  go_enter Tryz.func94, Tryz.ntmps94
  go_upto_region 1 with fail
  rw [← hw0]
  replace hw0 := Lib.hid hw0
  go_wp2_with fail
  refine (CA.out).mono ?_
  rintro ev w1 ⟨x, er, rfl, her, hx, hsp, hb1⟩
  have hx1 := (hb1.block _ (heap_lt hx0.out)).trans hx0.out
  have k0 := Lat.cell (show w1.cell? ⟨w.heap.size, 0, none⟩ = some (.bool fb) by rw [cell_of hx1]; rfl)
  have k1 := Lat.cell (show w1.cell? ⟨w.heap.size, 1, none⟩ = some (.string t) by rw [cell_of hx1]; rfl)
  have k2 := Lat.cell (show w1.cell? ⟨w.heap.size, 2, none⟩ = some (.slice A nl c) by rw [cell_of hx1]; rfl)
  go_upto_region 2 with fail
  have htab1 := Lib.hid ((htab.out.below hb0.out (Nat.le_refl _)).below hb1 (Nat.le_refl _))
  have CI := fun (y : Lat w1) => Lib.hid (itoa_int x hx.1 hx.2 y.val (htab1.out.below y.below (Nat.le_refl _)))
  have hspH := Lib.hid hsp
  have hb1H := Lib.hid hb1
  have hxH := Lib.hid hx
  clear hsp hb1 hx1 hx
  go_cut [44] (fun v wc => ∃ bad, v = .bool bad ∧ NumBad er fb nl x t least most bad ∧ Below w1.heap.size w1 wc)
  case first =>
    rcases her with rfl | ⟨N, rfl⟩
    · cases fb with
      | true =>
        refine wp_region_lat (by kernel_rfl) (by kernel_rfl) ?_
        repeat (go_big_quiet_step ((go_at_call 77; exact lat_of (CI _).out)))
        refine wpQuiet_nil ?_
        intro _ hw'
        obtain ⟨xl, hw''⟩ := hw'
        subst hw''
        go_wp2_with fail
        go_meet
        case rel => exact ⟨_, rfl, ⟨fun h => (by cases h), fun h1 h2 h3 h4 h5 h6 => (by cases h2)⟩, xl.below⟩
      | false =>
        by_cases hn0 : nl = 0
        · subst hn0
          have q0 : ¬ (0 : Int) < ((0 : Nat) : Int) := by omega
          by_cases hit : t.data.toList = Lib.itoa x
          · have q1 : (Lib.itoa x == t.toList) = true := by rw [ByteArray.toList_eq, hit]; simp
            by_cases hl : x < least
            ·
              refine wp_region_lat (by kernel_rfl) (by kernel_rfl) ?_
              repeat (go_big_quiet_step ((go_at_call 77; exact lat_of (CI _).out)))
              refine wpQuiet_nil ?_
              intro _ hw'
              obtain ⟨xl, hw''⟩ := hw'
              subst hw''
              go_wp2_with fail
              go_meet
              case rel => exact ⟨_, rfl, ⟨fun h => (by cases h), fun h1 h2 h3 h4 h5 h6 => (by omega)⟩, xl.below⟩
            · by_cases hm : most < x
              ·
                refine wp_region_lat (by kernel_rfl) (by kernel_rfl) ?_
                repeat (go_big_quiet_step ((go_at_call 77; exact lat_of (CI _).out)))
                refine wpQuiet_nil ?_
                intro _ hw'
                obtain ⟨xl, hw''⟩ := hw'
                subst hw''
                go_wp2_with fail
                go_meet
                case rel => exact ⟨_, rfl, ⟨fun h => (by cases h), fun h1 h2 h3 h4 h5 h6 => (by omega)⟩, xl.below⟩
              ·
                refine wp_region_lat (by kernel_rfl) (by kernel_rfl) ?_
                repeat (go_big_quiet_step ((go_at_call 77; exact lat_of (CI _).out)))
                refine wpQuiet_nil ?_
                intro _ hw'
                obtain ⟨xl, hw''⟩ := hw'
                subst hw''
                go_wp2_with fail
                go_meet
                case rel => exact ⟨_, rfl, ⟨fun _ => ⟨rfl, by omega, by omega⟩, fun h1 h2 h3 h4 h5 h6 => rfl⟩, xl.below⟩
          · have q1 : (Lib.itoa x == t.toList) = false := by
              rw [ByteArray.toList_eq, beq_eq_false_iff_ne]
              exact fun e => hit e.symm
            refine wp_region_lat (by kernel_rfl) (by kernel_rfl) ?_
            repeat (go_big_quiet_step ((go_at_call 77; exact lat_of (CI _).out)))
            refine wpQuiet_nil ?_
            intro _ hw'
            obtain ⟨xl, hw''⟩ := hw'
            subst hw''
            go_wp2_with fail
            go_meet
            case rel => exact ⟨_, rfl, ⟨fun h => (by cases h), fun h1 h2 h3 h4 h5 h6 => (by exact absurd h4 hit)⟩, xl.below⟩
        · have q0 : (0 : Int) < (nl : Int) := by omega
          have q00 : 0 < nl := by omega
          refine wp_region_lat (by kernel_rfl) (by kernel_rfl) ?_
          repeat (go_big_quiet_step ((go_at_call 77; exact lat_of (CI _).out)))
          refine wpQuiet_nil ?_
          intro _ hw'
          obtain ⟨xl, hw''⟩ := hw'
          subst hw''
          go_wp2_with fail
          go_meet
          case rel => exact ⟨_, rfl, ⟨fun h => (by cases h), fun h1 h2 h3 h4 h5 h6 => (by exact absurd h3 hn0)⟩, xl.below⟩
    ·
      refine wp_region_lat (by kernel_rfl) (by kernel_rfl) ?_
      repeat (go_big_quiet_step ((go_at_call 77; exact lat_of (CI _).out)))
      refine wpQuiet_nil ?_
      intro _ hw'
      obtain ⟨xl, hw''⟩ := hw'
      subst hw''
      go_wp2_with fail
      go_meet
      case rel => exact ⟨_, rfl, ⟨fun h => (by cases h), fun h1 h2 h3 h4 h5 h6 => (by cases h1)⟩, xl.below⟩
  case rest =>
    obtain ⟨bad, rfl, hbad, hbw⟩ := hcut
    have hbH := Lib.hid (hb0.out.trans ((hb1H.out.mono hb0.out.size).trans (hbw.mono (Nat.le_trans hb0.out.size hb1H.out.size))))
    replace hbad := Lib.hid hbad
    have hle := Lib.hid hlo
    have hme := Lib.hid hmo
    clear hbw hlo hmo
    cases bad with
    | true =>
      go_wp2_with fail
      go_ret2
      refine ⟨0, _, rfl, .inr rfl, fun h => (by cases h), fun n n0 n1 h1 h2 h3 => ?_, hbH.out⟩
      obtain ⟨e1, e2⟩ := hspH.out n (by have := hle.out; omega) (by have := hme.out; omega) h3
      subst e2
      have := hbad.out.2 e1 h1 h2 h3 n0 n1
      cases this
    | false =>
      go_wp2_with fail
      go_ret2
      obtain ⟨e1, e2⟩ := hbad.out.1 rfl
      refine ⟨x, _, rfl, .inl rfl, fun _ => e2, fun n n0 n1 h1 h2 h3 => ⟨rfl, (hspH.out n (by have := hle.out; omega) (by have := hme.out; omega) h3).2⟩, hbH.out⟩
end Go.Proofs.YtbiioaggilaebaaGreatDoor.Tm
set_option linter.unusedVariables false
set_option linter.unusedSimpArgs false
namespace Go.Proofs.YtbiioaggilaebaaGreatDoor.Tm
open Go Go.RowKit Go.Proofs.YtbiioaggilaebaaGreatDoor.B Go.Proofs.YtbiioaggilaebaaGreatDoor.Bld Go.Proofs.YtbiioaggilaebaaGreatDoor.Sha
theorem infoF : ∃ i, Tryz.prog.info? 74 = some i ∧ i.zero = some (.agg #[.bool false, .string ⟨#[]⟩, .slice none 0 0]) ∧ i.size = 3 ∧ i.bytes = 48 := by
  have h : (Tryz.prog.info? 74).map (fun i => (i.zero, i.size, i.bytes)) = some (some (.agg #[.bool false, .string ⟨#[]⟩, .slice none 0 0]), 3, 48) := by kernel_rfl
  match hi : Tryz.prog.info? 74, h with
  | some i, h =>
    simp only [Option.map_some, Option.some.injEq, Prod.mk.injEq] at h
    exact ⟨i, rfl, h.1, h.2.1, h.2.2⟩
def ItemAt (g deep : Nat) : Prop := ∀ (s : ByteArray) (w : World), RdAt w g s → s.size ≤ 65536 → Calls Tryz.prog 93 #[.pointer (some ⟨g, 0, none⟩), .int .i64 deep] w (ItemPost g deep s w)
def ItRel (g deep : Nat) (s1 : List UInt8) (w : World) (W : World) (L : List F) (v : Value) (r : ByteArray) : Prop :=
  RdAt W g r ∧ W.heap[w.heap.size]? = some (.cells #[.bool false, .string ⟨#[]⟩, .slice none 0 0] 74 (0, 0)) ∧
  W.heap[w.heap.size + 1]? = some (.cells #[.bool true, .string ⟨#[]⟩, v] 74 (0, 0)) ∧ Bag (w.heap.size + 2) W v L ∧ LoopSpec deep s1 L r.data.toList ∧ Tch (fun k => k = g) w W
theorem size_alloc (w : World) (o : Obj) : (w.alloc o).heap.size = w.heap.size + 1 := by simp
theorem blk3 {X : World} {b : Nat} {x y z : Value} {t : TypeId} (h : X.heap[b]? = some (.cells #[x, y, z] t (0, 0))) :
    X.cell? ⟨b, 0, none⟩ = some x ∧ X.cell? ⟨b, 1, none⟩ = some y ∧ X.cell? ⟨b, 2, none⟩ = some z ∧ X.shape? b = some (t, 3) ∧ ∀ i, X.frozen? ⟨b, i, none⟩ = false :=
  ⟨by rw [cell_of h]; rfl, by rw [cell_of h]; rfl, by rw [cell_of h]; rfl, by simp [World.shape?, h], fr_of h⟩
theorem itemPost_no {g deep : Nat} {s r : ByteArray} {w W : World} (hg : g < w.heap.size) (hr : RdAt W g r) (hsp : ItemSpec deep s.data.toList (.mk false [] []) false r.data.toList) (ht : Tch (fun k => k = g) w W) (x y z : Value) :
    ItemPost g deep s w (.returned (.tuple #[.agg #[.bool false, .string ⟨#[]⟩, .slice none 0 0], .bool false])) (((W.setCell ⟨w.heap.size, 0, none⟩ x).setCell ⟨w.heap.size, 1, none⟩ y).setCell ⟨w.heap.size, 2, none⟩ z) := by
  refine ⟨.mk false [] [], _, _, _, false, r, rfl, FK.text _ _ ⟨#[]⟩, ?_, hsp, tch_set3 ht (Nat.le_refl _) _ _ _⟩
  unfold RdAt
  rw [set3_ne (by omega)]
  exact hr
set_option maxRecDepth 100000 in
set_option maxHeartbeats 8000000 in
theorem item_list_c (g deep : Nat) (hd9 : deep ≤ 8) (ih : deep < 8 → ItemAt g (deep + 1)) (s : ByteArray) (w : World) (hg : RdAt w g s) (hs : s.size ≤ 65536) (h0 : s.data.toList[0]? = some 40) :
    Calls Tryz.prog 93 #[.pointer (some ⟨g, 0, none⟩), .int .i64 deep] w (ItemPost g deep s w) := by
  have hs1 : 1 ≤ s.size := by
    rw [← toList_size]
    have := (List.getElem?_eq_some_iff.1 h0).1
    omega
  obtain ⟨s1, hs1e⟩ : ∃ s1, s.data.toList = 40 :: s1 := by
    generalize s.data.toList = l at *
    cases l with
    | nil => cases h0
    | cons a l =>
      simp only [List.getElem?_cons_zero, Option.some.injEq] at h0
      exact ⟨l, by rw [h0]⟩
  have hs1i : (1 : Int) ≤ (s.size : Int) := by omega
  have hgl := heap_lt hg
  obtain ⟨w0, hw0⟩ : ∃ w0, w0 = w.alloc (.cells #[.bool false, .string ⟨#[]⟩, .slice none 0 0] 74) := ⟨_, rfl⟩
  have hsz0 : w0.heap.size = w.heap.size + 1 := by rw [hw0]; simp
  have hg0 : RdAt w0 g s := by rw [hw0]; unfold RdAt; rw [heap_alloc_lt _ _ _ hgl]; exact hg
  have hr0 : w0.heap[w.heap.size]? = some (.cells #[.bool false, .string ⟨#[]⟩, .slice none 0 0] 74 (0, 0)) := by rw [hw0]; exact heap_alloc_at _ _
  have ht0 : Tch (fun k => k = g) w w0 := by rw [hw0]; exact (Tch.refl _ _).alloc _
  obtain ⟨w1, hw1⟩ : ∃ w1, w1 = w0.alloc (.cells #[.bool true, .string ⟨#[]⟩, .slice none 0 0] 74) := ⟨_, rfl⟩
  have hsz1 : w1.heap.size = w.heap.size + 2 := by rw [hw1]; simp [hsz0]
  have hg1 : RdAt w1 g s := by rw [hw1]; unfold RdAt; rw [heap_alloc_lt _ _ _ (heap_lt hg0)]; exact hg0
  have hr1 : w1.heap[w.heap.size]? = some (.cells #[.bool false, .string ⟨#[]⟩, .slice none 0 0] 74 (0, 0)) := by rw [hw1, heap_alloc_lt _ _ _ (heap_lt hr0)]; exact hr0
  have hf1 : w1.heap[w.heap.size + 1]? = some (.cells #[.bool true, .string ⟨#[]⟩, .slice none 0 0] 74 (0, 0)) := by rw [hw1, ← hsz0]; exact heap_alloc_at _ _
  have ht1 : Tch (fun k => k = g) w w1 := by rw [hw1]; exact ht0.alloc _
  have hc0 : w0.cell? ⟨g, 0, none⟩ = some (.string s) := by rw [cell_of hg0]; rfl
  have hc1 : w1.cell? ⟨g, 0, none⟩ = some (.string s) := by rw [cell_of hg1]; rfl
  have hz1 : w1.frozen? ⟨g, 0, none⟩ = false := fr_of hg1 0
  have CP := Tryz.strings_HasPrefix s ⟨#[40]⟩ w0
  have hpre : Lib.hasPrefix s.data.toList (⟨#[40]⟩ : ByteArray).data.toList = true := by
    show [40].isPrefixOf s.data.toList = true
    rw [hs1e]
    simp [List.isPrefixOf]
  rw [hpre] at CP
  have CPH := Lib.hid CP
  have hrel0 : ItRel g deep s1 w (w1.setCell ⟨g, 0, none⟩ (.string (s.extract 1 s.size))) [] (.slice none 0 0) (s.extract 1 s.size) := by
    have hne1 : w.heap.size ≠ g := by omega
    have hne2 : w.heap.size + 1 ≠ g := by omega
    refine ⟨rdAt_set hg1 _, by rw [heap_set_ne _ _ _ _ hne1]; exact hr1, by rw [heap_set_ne _ _ _ _ hne2]; exact hf1, Bag.nil _ _, ?_, ht1.setCell ⟨g, 0, none⟩ (fun _ => rfl) _⟩
    rw [extract_toList, hs1e]
    exact loop_zero deep s1
  have hrel0H := Lib.hid hrel0
  have hsx : (s.extract 1 s.size).size = s.size - 1 := by rw [← toList_size, extract_toList, List.length_drop, toList_size]
  have hsxH := Lib.hid hsx
  replace hgl := Lib.hid hgl
  replace hs1e := Lib.hid hs1e
  replace hs := Lib.hid hs
  have ihH := Lib.hid ih
  have hsz0H := Lib.hid hsz0
  clear hrel0 hsx CP hpre hg hg0 hg1 hr0 hr1 hf1 ht0 ht1 hsz1 h0 ih hsz0
  go_enter Tryz.func93, Tryz.ntmps93
  go_upto_region 1 with fail
  rw [← hw0]
  replace hw0 := Lib.hid hw0
  go_wp2_with fail
  refine (CPH.out).mono ?_
  rintro ev w2 ⟨rfl, rfl⟩
  go_upto_region 3 with fail
  rw [hsz0H.out, ← hw1]
  replace hw1 := Lib.hid hw1
  go_wp2_with fail
  go_loopg [] (s.size - 1) (fun g' W => ∃ L v r, g' = r.size ∧ ItRel g deep s1 w W L v r)
  case atStart => exact ⟨[], .slice none 0 0, s.extract 1 s.size, by rw [hsxH.out], hrel0H.out⟩
  case round =>
    obtain ⟨L, v, r, hgk, hR⟩ := hrel
    have hrg := hR.1
    have hblk := hR.2.1
    have hfb := hR.2.2.1
    have hlp := hR.2.2.2.2.1
    have hT := hR.2.2.2.2.2
    obtain ⟨k0, k1, k2, hsh, hfz⟩ := blk3 hblk
    obtain ⟨f0, f1, f2, _, hfzf⟩ := blk3 hfb
    have cg : wr.cell? ⟨g, 0, none⟩ = some (.string r) := by rw [cell_of hrg]; rfl
    have zg : wr.frozen? ⟨g, 0, none⟩ = false := fr_of hrg 0
    have hRH := Lib.hid hR
    replace hgk := Lib.hid hgk
    replace hrg := Lib.hid hrg
    replace hblk := Lib.hid hblk
    replace hfb := Lib.hid hfb
    replace hlp := Lib.hid hlp
    replace hT := Lib.hid hT
    clear hR
    by_cases hd8 : deep < 8
    · have hd8i : (deep : Int) < 8 := by omega
      by_cases hr0 : r.size = 0
      · have hre : r.toList = [] := by rw [ByteArray.toList_eq]; exact List.eq_nil_of_length_eq_zero (by rw [toList_size]; exact hr0)
        have hsp := Lib.hid (item_stop hlp.out (.inr (List.eq_nil_of_length_eq_zero (by rw [toList_size]; exact hr0))) (.mk false [] []))
        rw [← hs1e.out] at hsp
        go_wp2_with fail
        (try simp only [Exit.inBlock, Exit.then])
        refine bodyPost_ret (results_cell_tmp rfl _ _ w.heap.size 74 #[.bool false, .string ⟨#[]⟩, .slice none 0 0] (0, 0) _ rfl (set3 hblk.out) Tryz.underlying74 rfl (by kernel_rfl) _ rfl) rfl ?_
        exact itemPost_no hgl.out hrg.out hsp.out hT.out _ _ _
      · have hre1 : ¬ r.toList = [] := by
          rw [ByteArray.toList_eq]
          intro e
          exact hr0 (by rw [← toList_size, e]; rfl)
        have hre2 : r.toList.isEmpty = false := by simpa using hre1
        have hrp : 0 < r.size := by omega
        have hrpi : (0 : Int) < (r.size : Int) := by omega
        obtain ⟨a, ha⟩ : ∃ a, a = r[0]'hrp := ⟨_, rfl⟩
        have hl0 : r.data.toList[0]? = some a := by rw [ha, Array.getElem?_toList, Array.getElem?_eq_getElem hrp]; rfl
        by_cases h41 : a = 41
        · have q41 : (((r[0]'hrp).toNat : Int) == 41) = true := by rw [← ha, h41]; rfl
          obtain ⟨A, c, rfl, hLc, hcm, hks⟩ := hRH.out.2.2.2.1.form
          have hr41 : r.data.toList = 41 :: r.data.toList.drop 1 := by
            rw [h41] at hl0
            generalize r.data.toList = q at *
            cases q with
            | nil => cases hl0
            | cons x q =>
              simp only [List.getElem?_cons_zero, Option.some.injEq] at hl0
              rw [hl0]; rfl
          have hl1 := hlp.out
          rw [hr41] at hl1
          have hLb : L.length ≤ 65536 := by
            have h1 := hl1.1.1
            have h2 := hs.out
            rw [← toList_size, hs1e.out] at h2
            simp only [List.length_cons] at h1 h2
            omega
          have hsp := Lib.hid (item_end hl1 hLb)
          rw [← hs1e.out, ← extract_toList] at hsp
          have hn5 : ¬ w.heap.size = g := by have := hgl.out; omega
          have hn6 : ¬ g = w.heap.size := by have := hgl.out; omega
          have hn7 : ¬ w.heap.size + 1 = g := by have := hgl.out; omega
          have hn8 : ¬ g = w.heap.size + 1 := by have := hgl.out; omega
          have hr1i : (1 : Int) ≤ (r.size : Int) := by omega
          have hks := Lib.hid hks
          obtain ⟨nL, hnL⟩ : ∃ nL, nL = L.length := ⟨_, rfl⟩
          rw [← hnL] at f2 hLc
          have hLc := Lib.hid hLc
          replace hnL := Lib.hid hnL
          clear hr41 hl0 hl1 ha h41 hRH
          go_wp2_with fail
          (try simp only [Exit.inBlock, Exit.then])
          have hblk2 : (wr.setCell ⟨g, 0, none⟩ (.string (r.extract 1 r.size))).heap[w.heap.size]? = some (.cells #[.bool false, .string ⟨#[]⟩, .slice none 0 0] 74 (0, 0)) := by
            rw [heap_set_ne _ _ _ _ hn5]; exact hblk.out
          refine bodyPost_ret (results_cell_tmp rfl _ _ w.heap.size 74 #[.bool true, .string ⟨#[]⟩, .slice A nL c] (0, 0) _ rfl (set3 hblk2) Tryz.underlying74 rfl (by kernel_rfl) _ rfl) rfl ?_
          refine ⟨.mk true [] L, _, _, _, true, r.extract 1 r.size, rfl, ?_, ?_, hsp.out, tch_set3 (hT.out.setCell ⟨g, 0, none⟩ (fun _ => rfl) _) (Nat.le_refl _) _ _ _⟩
          · unfold FK
            rw [hnL.out]
            refine ⟨A, c, rfl, by rw [← hnL.out]; exact hLc.out, by omega, FKs.move (fun b hb => ⟨⟨by omega, by rw [size_set, size_set, size_set, size_set]; exact hb.2⟩, by rw [set3_ne (by omega), heap_set_ne _ _ _ _ (by show b ≠ g; have := hgl.out; omega)]⟩) L A 0 hks.out⟩
          · unfold RdAt
            rw [set3_ne hn6]
            exact rdAt_set hrg.out _
        · have q41 : (((r[0]'hrp).toNat : Int) == 41) = false := by
            rw [← ha, beq_eq_false_iff_ne]
            intro h
            exact h41 (UInt8.toNat_inj.1 (by have : ((41 : UInt8).toNat : Int) = 41 := rfl; omega))
          have hn41 : r.data.toList[0]? ≠ some 41 := by rw [hl0]; simpa using h41
          have hrb : r.size + L.length ≤ 65536 := by
            have h1 := hlp.out.1.1
            have h2 := hs.out
            rw [toList_size] at h1
            rw [← toList_size, hs1e.out] at h2
            simp only [List.length_cons] at h2
            omega
          have CI := ihH.out hd8 r wr hrg.out (by omega)
          rw [show ((deep + 1 : Nat) : Int) = (deep : Int) + 1 from by omega] at CI
          have CIH := Lib.hid CI
          have hn41H := Lib.hid hn41
          have hrbH := Lib.hid hrb
          clear CI hn41 hl0 ha h41 hrb
          go_wp2_with fail
          refine (CIH.out).mono ?_
          rintro ev w3 ⟨f, x0, x1, x2, ok, r3, rfl, hFK, hg3, hsp3, hT3⟩
          have hb3 := hT3.heap hblk.out (show ¬ w.heap.size = g by have := hgl.out; omega)
          have hf3 := hT3.heap hfb.out (show ¬ w.heap.size + 1 = g by have := hgl.out; omega)
          have hB3 := hRH.out.2.2.2.1.keep (w' := w3) (fun b h1 h2 => hT3.block b h2 (show ¬ b = g by have := hgl.out; omega)) hT3.size
          have hTT := hT.out.trans hT3
          obtain ⟨fb, ft, fl⟩ := f
          have hFK2 := hFK
          unfold FK at hFK2
          obtain ⟨A2, c2, hcs, _⟩ := hFK2
          simp only [List.cons.injEq, and_true] at hcs
          obtain ⟨rfl, rfl, rfl⟩ := hcs
          obtain ⟨w4, hw4⟩ : ∃ w4, w4 = w3.alloc (.cells #[.bool fb, .string ⟨ft.toArray⟩, .slice A2 fl.length c2] 74) := ⟨_, rfl⟩
          have hx4 : w4.heap[w3.heap.size]? = some (.cells #[.bool fb, .string ⟨ft.toArray⟩, .slice A2 fl.length c2] 74 (0, 0)) := by rw [hw4]; exact heap_alloc_at _ _
          have hb4 : w4.heap[w.heap.size]? = some (.cells #[.bool false, .string ⟨#[]⟩, .slice none 0 0] 74 (0, 0)) := by rw [hw4, heap_alloc_lt _ _ _ (heap_lt hb3)]; exact hb3
          have hf4 : w4.heap[w.heap.size + 1]? = some (.cells #[.bool true, .string ⟨#[]⟩, v] 74 (0, 0)) := by rw [hw4, heap_alloc_lt _ _ _ (heap_lt hf3)]; exact hf3
          have hg4 : RdAt w4 g r3 := by unfold RdAt; rw [hw4, heap_alloc_lt _ _ _ (heap_lt hg3)]; exact hg3
          have hT4 : Tch (fun k => k = g) w w4 := by rw [hw4]; exact hTT.alloc _
          have hs4 : w4.heap.size = w3.heap.size + 1 := by rw [hw4]; simp
          have hB4 := hB3.keep (w' := w4) (fun b h1 h2 => by rw [hw4]; exact heap_alloc_lt _ _ _ h2) (by omega)
          have hF4 : FK (fun b => wr.heap.size ≤ b ∧ b < w3.heap.size) w4 (.mk fb ft fl) [.bool fb, .string ⟨ft.toArray⟩, .slice A2 fl.length c2] := FK.move (fun b hb => ⟨hb, by rw [hw4]; exact heap_alloc_lt _ _ _ hb.2⟩) _ _ hFK
          obtain ⟨y0, y1, y2, _, yz⟩ := blk3 hx4
          obtain ⟨k0, k1, k2, hsh, hfz⟩ := blk3 hb4
          obtain ⟨f0, f1, f2, _, hfzf⟩ := blk3 hf4
          obtain ⟨nl, hnl⟩ : ∃ nl, nl = fl.length := ⟨_, rfl⟩
          rw [← hnl] at hw4 hF4 y2 hx4 ⊢
          replace hnl := Lib.hid hnl
          have hw3 := Lib.hid (show wr.heap.size ≤ w3.heap.size from hT3.size)
          have hlo := Lib.hid (show w.heap.size + 1 < wr.heap.size from heap_lt hfb.out)
          replace hx4 := Lib.hid hx4
          replace hb4 := Lib.hid hb4
          replace hf4 := Lib.hid hf4
          replace hg4 := Lib.hid hg4
          replace hT4 := Lib.hid hT4
          replace hs4 := Lib.hid hs4
          replace hB4 := Lib.hid hB4
          replace hF4 := Lib.hid hF4
          replace hsp3 := Lib.hid hsp3
          clear hb3 hf3 hB3 hTT hFK hg3 hT3
          cases ok with
          | false =>
            have hsp := Lib.hid (item_fail hlp.out hn41H.out hsp3.out (.mk false [] []))
            rw [← hs1e.out] at hsp
            go_upto_region 9 with fail
            rw [← hw4]
            replace hw4 := Lib.hid hw4
            go_wp2_with fail
            (try simp only [Exit.inBlock, Exit.then])
            refine bodyPost_ret (results_cell_tmp rfl _ _ w.heap.size 74 #[.bool false, .string ⟨#[]⟩, .slice none 0 0] (0, 0) _ rfl (set3 hb4.out) Tryz.underlying74 rfl (by kernel_rfl) _ rfl) rfl ?_
            exact itemPost_no hgl.out hg4.out hsp.out hT4.out _ _ _
          | true =>
            have hlp2 := Lib.hid (loop_step hlp.out hn41H.out hsp3.out)
            have hr3 := Lib.hid (hsp3.out.2.1 rfl)
            obtain ⟨iF, hiF, hzF, hsF, hbF⟩ := infoF
            obtain ⟨cs, hown, hFC⟩ := hB4.out
            have hownH := Lib.hid hown
            have hFCH := Lib.hid hFC
            have hlb := Lib.hid (show L.length ≤ 65536 by have := hrbH.out; omega)
            obtain ⟨nL, hnL⟩ : ∃ nL, nL = L.length := ⟨_, rfl⟩
            rw [← hnL] at hownH hlb
            replace hnL := Lib.hid hnL
            have hnb := Lib.hid (show some (w.heap.size + 1) ≠ v.ownBlock from fun e => by have := (hB4.out.lt _ e.symm).1; omega)
            clear hown hFC
            go_upto_region 9 with fail
            rw [← hw4]
            replace hw4 := Lib.hid hw4
            go_upto_region 10 with fail
            go_wp2_with (at_builtin; refine wpList_append_lies _ (by rfl) _ _ _ (by rfl) (w.heap.size + 2) 74 iF _ 3 48 Tryz.underlying72 hiF hzF hsF hbF rfl (by omega) v nL cs (by rfl) (hownH.out.alloc _) ⟨w4.heap.size, 0, none⟩ 1 1 [.bool fb, .string ⟨ft.toArray⟩, .slice A2 nl c2] (by rfl) (by rfl) (World.news_of_block (heap_alloc_at w4 _)) (by simp [Value.oneCell']) (by omega) (by have := hlb.out; unfold maxLen; omega) (by have := hlb.out; omega) (by have := hlo.out; have := hw3.out; have := hs4.out; simp; omega) (w4.heap.size + 1) (by simp) ?_; intro g5 cap5 w5 hown5 hgrow5 hat5 hlt5; have hf5 := (hgrow5.block (w.heap.size + 1) (by have := heap_lt hf4.out; simp; omega) hnb.out).trans ((heap_alloc_lt w4 _ _ (heap_lt hf4.out)).trans hf4.out); have f5 : w5.cell? ⟨w.heap.size + 1, 2, none⟩ = some v := (by rw [cell_of hf5]; rfl); have z5 : w5.frozen? ⟨w.heap.size + 1, 2, none⟩ = false := fr_of hf5 2; replace hf5 := Lib.hid hf5; replace hgrow5 := Lib.hid hgrow5; replace hown5 := Lib.hid hown5; replace hat5 := Lib.hid hat5)
            go_roundg r3.size
            case measure => have := hr3.out; rw [toList_size, toList_size] at this; rw [hgk.out]; exact this
            case rel =>
              refine ⟨L ++ [.mk fb ft fl], .slice (some ⟨g5, 0, none⟩) (nL + 1) cap5, r3, rfl, ?_⟩
              have hge : g ≠ w.heap.size + 1 := by have := hgl.out; omega
              have hsz5 := hgrow5.out.size
              simp only [size_alloc] at hsz5
              have blk5 : ∀ b, b < w4.heap.size → some b ≠ v.ownBlock → w5.heap[b]? = w4.heap[b]? := fun b h1 h2 => (hgrow5.out.block b (by simp only [size_alloc]; omega) h2).trans (heap_alloc_lt w4 _ _ h1)
              have hvb : ∀ b, b < w.heap.size + 2 → some b ≠ v.ownBlock := fun b hb e => by have := (hB4.out.lt _ e.symm).1; omega
              have hsz4 := heap_lt hf4.out
              have hgr : w4.grownBy w5 v.ownBlock := ⟨hgrow5.out.os, hgrow5.out.tape, hgrow5.out.output, by omega, fun k h1 h2 => blk5 k h1 h2⟩
              have hT5 : Tch (fun k => k = g) w w5 := ⟨hgr.os.trans hT4.out.os, hgr.tape.trans hT4.out.tape, hgr.output.trans hT4.out.output, Nat.le_trans hT4.out.size hgr.size, fun k h1 h2 => (blk5 k (Nat.lt_of_lt_of_le h1 hT4.out.size) (hvb k (by omega))).trans (hT4.out.block k h1 h2)⟩
              have hbag : Bag (w.heap.size + 2) w5 (.slice (some ⟨g5, 0, none⟩) (nL + 1) cap5) (L ++ [.mk fb ft fl]) := by
                rw [hnL.out] at hown5 ⊢
                refine Bag.push hFCH.out (FK.move (fun b hb => ⟨⟨by have := hlo.out; omega, by have := hs4.out; omega, fun e => by have := (hRH.out.2.2.2.1.lt _ e.symm).2; omega⟩, rfl⟩) _ _ hF4.out) hown5.out hgr ?_
                rcases hat5.out with h | h
                · exact .inl h
                · right; omega
              refine ⟨?_, ?_, ?_, ?_, hlp2.out, hT5.setNew ⟨w.heap.size + 1, 2, none⟩ (by show w.heap.size ≤ w.heap.size + 1; omega) _⟩
              · unfold RdAt
                rw [heap_set_ne _ _ _ _ hge, blk5 g (heap_lt hg4.out) (hvb g (by have := hgl.out; omega))]
                exact hg4.out
              · rw [heap_set_ne _ _ _ _ (by show w.heap.size ≠ w.heap.size + 1; omega), blk5 _ (by omega) (hvb _ (by omega))]
                exact hb4.out
              · exact heap_set _ _ _ _ _ _ _ hf5.out
              · exact hbag.keep (fun b h1 h2 => heap_set_ne _ _ _ _ (by show b ≠ w.heap.size + 1; omega)) (by rw [size_set]; exact Nat.le_refl _)
    · have hd8i : ¬ (deep : Int) < 8 := by omega
      have hsp := Lib.hid (item_stop hlp.out (.inl (by omega)) (.mk false [] []))
      rw [← hs1e.out] at hsp
      go_wp2_with fail
      (try simp only [Exit.inBlock, Exit.then])
      refine bodyPost_ret (results_cell_tmp rfl _ _ w.heap.size 74 #[.bool false, .string ⟨#[]⟩, .slice none 0 0] (0, 0) _ rfl (set3 hblk.out) Tryz.underlying74 rfl (by kernel_rfl) _ rfl) rfl ?_
      exact itemPost_no hgl.out hrg.out hsp.out hT.out _ _ _
theorem item_c (g : Nat) (d : Nat) : ∀ deep : Nat, deep + d = 8 → ItemAt g deep := by
  induction d with
  | zero =>
    intro deep hd s w hg hs
    by_cases h0 : s.data.toList[0]? = some 40
    · exact item_list_c g deep (by omega) (fun h8 => absurd h8 (by omega)) s w hg hs h0
    · exact item_text_c g deep s w hg hs h0
  | succ d ih =>
    intro deep hd s w hg hs
    by_cases h0 : s.data.toList[0]? = some 40
    · exact item_list_c g deep (by omega) (fun h8 => ih (deep + 1) (by omega)) s w hg hs h0
    · exact item_text_c g deep s w hg hs h0
end Go.Proofs.YtbiioaggilaebaaGreatDoor.Tm
