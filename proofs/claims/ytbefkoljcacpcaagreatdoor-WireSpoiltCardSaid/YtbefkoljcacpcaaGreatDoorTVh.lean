/- What LawWireReads, LawWireWrites, LawWireSpoilt lean on, part h of 25: the texts Bld, ShaT, TmK, Rdg. -/
import Derived.Test.YtbefkoljcacpcaaGreatDoorTVf
import Derived.Test.YtbefkoljcacpcaaGreatDoorTVg
import Derived.Lib.Builder
import Derived.Lib.AppendStr
import Derived.Lib.UnsafeStr
import Derived.ChangeAlike
import Derived.Laws.Externs
import Derived.Laws.OwnMore
import Derived.Deep.AppendLies
import Derived.RegionTactic
import Derived.RowKit
import Derived.Test.YtbefkoljcacpcaaGreatDoorProg
import Derived.Lib.AtoiAllCases
import Derived.Lib.ItoaMem
import Derived.StillTail
import Derived.Deep.RegionHeld3
set_option linter.unusedVariables false
set_option linter.unusedSimpArgs false
namespace Go.Proofs.YtbefkoljcacpcaaGreatDoor.Bld
open Go Go.RowKit Go.Proofs.YtbefkoljcacpcaaGreatDoor.B
def WAt (B g : Nat) (l : List UInt8) (e d : Value) (w : World) : Prop :=
  B ≤ g ∧ ∃ p v, (p = .pointer none ∨ p = .pointer (some ⟨g, 0, none⟩)) ∧ w.heap[g]? = some (.cells #[p, v, e, d] 93 (0, 0)) ∧ w.ownsRow B 5 1 v l.length (bc l)
def Oth (g : Nat) (w w' : World) : Prop := ∀ (k : Nat) (cs : Array Value) (ty : TypeId) (fz : Nat × Nat), k ≠ g → ty ≠ 5 → w.heap[k]? = some (.cells cs ty fz) → w'.heap[k]? = some (.cells cs ty fz)
theorem Oth.refl (g : Nat) (w : World) : Oth g w w := fun _ _ _ _ _ _ h => h
theorem Oth.trans {g : Nat} {a b c : World} (h : Oth g a b) (k : Oth g b c) : Oth g a c := fun i cs ty fz h1 h2 h3 => k i cs ty fz h1 h2 (h i cs ty fz h1 h2 h3)
theorem Oth.below {g : Nat} {w w' : World} (h : Below w.heap.size w w') : Oth g w w' := fun k cs ty fz _ _ h3 => (h.block k (heap_lt h3)).trans h3
theorem Oth.alloc (g : Nat) (w : World) (o : Obj) : Oth g w (w.alloc o) := Oth.below ((Below.refl _ _).alloc (Nat.le_refl _) _)
theorem Oth.set (g o : Nat) (w : World) (u : Value) : Oth g w (w.setCell ⟨g, o, none⟩ u) := fun k cs ty fz h1 _ h3 => by
  rw [Below.heap_setCell _ _ _ _ (by simpa using h1)]; exact h3
theorem Oth.grown {g : Nat} {w w' : World} {base size n : Nat} {v : Value} {xs : List Value} (ho : w.ownsRow base 5 size v n xs) (hg : w.grownBy w' v.ownBlock) : Oth g w w' := fun k cs ty fz _ h2 h3 => by
  rw [hg.block k (heap_lt h3) (fun e => ?_)]
  · exact h3
  · rcases ho.2 with ⟨rfl, _⟩ | ⟨r, cap, cur, rfl, hr, hh, _⟩
    · simp [Value.ownBlock] at e
    · have : k = r := by simpa [Value.ownBlock] using e
      subst this
      rw [hh] at h3
      injection h3 with h3
      injection h3 with _ h3 _
      exact h2 h3.symm
theorem own_far {w : World} {base size n g : Nat} {v : Value} {xs : List Value} {cs : Array Value} {fz : Nat × Nat} (ho : w.ownsRow base 5 size v n xs) (hg : w.heap[g]? = some (.cells cs 93 fz)) : v.ownBlock ≠ some g := by
  intro h
  rcases ho.2 with ⟨rfl, _⟩ | ⟨k, cap, cur, rfl, hk, hh, _⟩
  · simp [Value.ownBlock] at h
  · have : k = g := by simpa [Value.ownBlock] using h
    subst this
    rw [hh] at hg
    injection hg with hg
    injection hg with _ hg _
    exact absurd hg (by decide)
theorem own_slice {w : World} {base size n : Nat} {e : TypeId} {v : Value} {xs : List Value} (ho : w.ownsRow base e size v n xs) : ∃ ao n' cap, v = .slice ao n' cap := by
  rcases ho.2 with ⟨hv, _⟩ | ⟨g', cap, cur, hv, _⟩
  · exact ⟨_, _, _, hv⟩
  · exact ⟨_, _, _, hv⟩
theorem after_row {w1 w2 : World} {base n size g : Nat} {p v e d : Value} {xs : List Value} (hg : w1.heap[g]? = some (.cells #[p, v, e, d] 93 (0, 0))) (ho : w1.ownsRow base 5 size v n xs) (hgrow : w1.grownBy w2 v.ownBlock) :
    w2.heap[g]? = some (.cells #[p, v, e, d] 93 (0, 0)) ∧ w2.cell? ⟨g, 1, none⟩ = some v ∧ w2.frozen? ⟨g, 1, none⟩ = false := by
  have h : w2.heap[g]? = some (.cells #[p, v, e, d] 93 (0, 0)) := by
    rw [hgrow.block g (heap_lt hg) (fun e => own_far ho hg e.symm)]
    exact hg
  exact ⟨h, by rw [cell_of h]; rfl, fr_of h 1⟩
theorem after_row1 {w1 w2 : World} {base n size g : Nat} {p v e d : Value} {xs : List Value} {o : Obj} (hg : w1.heap[g]? = some (.cells #[p, v, e, d] 93 (0, 0))) (ho : w1.ownsRow base 5 size v n xs) (hgrow : (w1.alloc o).grownBy w2 v.ownBlock) :
    w2.heap[g]? = some (.cells #[p, v, e, d] 93 (0, 0)) ∧ w2.cell? ⟨g, 1, none⟩ = some v ∧ w2.frozen? ⟨g, 1, none⟩ = false :=
  after_row (by rw [heap_alloc_lt _ _ _ (heap_lt hg)]; exact hg) (ho.alloc _) hgrow
theorem bsize : (Tryz.prog.info? 91).map (·.size) = some 2 := by kernel_rfl
theorem blies : liesAt Tryz.prog Tryz.prog.depth 93 (4 / Tryz.prog.cellsOf 93) 0 91 1 = true := by kernel_rfl
theorem len_any (B g : Nat) (l : List UInt8) (e d : Value) (w : World) (h : WAt B g l e d w) :
    Calls Tryz.prog 41 #[.pointer (some ⟨g, 0, none⟩)] w fun ev w' => ev = .returned (.int .i64 l.length) ∧ w' = w := by
  obtain ⟨hB, p, v, hp, hg, ho⟩ := h
  obtain ⟨A, c, rfl⟩ : ∃ A c, v = .slice A l.length c := by
    rcases ho.2 with ⟨rfl, h0⟩ | ⟨k, cap, cur, rfl, _⟩
    · exact ⟨none, 0, by rw [h0]⟩
    · exact ⟨_, _, rfl⟩
  have c1 : w.cell? ⟨g, 1, none⟩ = some (.slice A l.length c) := by rw [cell_of hg]; rfl
  clear ho hg hp
  go_enter Tryz.func41, Tryz.ntmps41
  go_wp2
  go_ret
  exact ⟨rfl, rfl⟩
set_option maxRecDepth 100000 in
theorem check_used (g : Nat) (w : World) (h0 : w.cell? ⟨g, 0, none⟩ = some (.pointer (some ⟨g, 0, none⟩))) :
    Calls Tryz.prog 77 #[.pointer (some ⟨g, 0, none⟩)] w fun ev w' => ev = .returned (.tuple #[]) ∧ w' = w := by
  obtain ⟨j, hj, _⟩ := Option.map_eq_some_iff.1 bsize
  go_enter Tryz.func77, Tryz.ntmps77
  go_wp2
  rw [Lib.run_neq_ptr_same w _ Tryz.underlying89 hj]
  go_wp2
  go_end0
  exact ⟨rfl, rfl⟩
set_option maxRecDepth 100000 in
set_option maxHeartbeats 1000000 in
theorem check_fresh (g : Nat) (w : World) (h0 : w.cell? ⟨g, 0, none⟩ = some (.pointer none)) (hsh : w.shape? g = some (93, 4)) (hfz : w.frozen? ⟨g, 0, none⟩ = false) :
    Calls Tryz.prog 77 #[.pointer (some ⟨g, 0, none⟩)] w fun ev w' => ev = .returned (.tuple #[]) ∧ w' = w.setCell ⟨g, 0, none⟩ (.pointer (some ⟨g, 0, none⟩)) := by
  obtain ⟨j, hj, hjs⟩ := Option.map_eq_some_iff.1 bsize
  go_enter Tryz.func77, Tryz.ntmps77
  go_wp2
  rw [Lib.run_to_unsafe w ⟨g, 0, none⟩ Tryz.underlying89 Tryz.underlying73 hj (by rw [hjs]; decide) hsh (Nat.zero_lt_succ 3)]
  simp only [Result.andThen]
  rw [Oper.upon_value]
  go_wp2
  rw [run_callFunc_extern Tryz.func94 (by kernel_rfl) (by kernel_rfl) (by kernel_rfl) (e := Extern.AbiNoEscape.same) (by kernel_rfl)]
  rw [Lib.run_noEscape]
  simp only [Result.andThen]
  rw [Oper.upon_value]
  go_wp2
  rw [Lib.run_from_unsafe w ⟨g, 0, none⟩ Tryz.underlying73 Tryz.underlying89 hj hsh blies]
  simp only [Result.andThen]
  rw [Oper.upon_value]
  go_wp2
  go_end0
  exact ⟨rfl, rfl⟩
def WUsed (B g : Nat) (l : List UInt8) (e d : Value) (w : World) : Prop :=
  B ≤ g ∧ ∃ v, w.heap[g]? = some (.cells #[.pointer (some ⟨g, 0, none⟩), v, e, d] 93 (0, 0)) ∧ w.ownsRow B 5 1 v l.length (bc l)
theorem own_set {w : World} {base g n : Nat} {v u : Value} {xs : List Value} {cs : Array Value} {fz : Nat × Nat} {o : Nat} (ho : w.ownsRow base 5 1 v n xs) (hg : w.heap[g]? = some (.cells cs 93 fz)) : (w.setCell ⟨g, o, none⟩ u).ownsRow base 5 1 v n xs :=
  ho.kept (row := some g) ⟨rfl, rfl, rfl, by simp [World.setCell], fun k _ hk => Below.heap_setCell _ _ _ _ (fun e => hk (by simp [e]))⟩ (Or.inr (own_far ho hg))
theorem check_any (B g : Nat) (l : List UInt8) (e d : Value) (w : World) (h : WAt B g l e d w) :
    Calls Tryz.prog 77 #[.pointer (some ⟨g, 0, none⟩)] w fun ev w' => ev = .returned (.tuple #[]) ∧ WUsed B g l e d w' ∧ Below B w w' ∧ Oth g w w' := by
  obtain ⟨hB, p, v, rfl | rfl, hg, ho⟩ := h
  · refine (check_fresh g w (by rw [cell_of hg]; rfl) (by simp [World.shape?, hg]) (fr_of hg 0)).mono ?_
    rintro ev w' ⟨rfl, rfl⟩
    refine ⟨rfl, ⟨hB, v, ?_, own_set ho hg⟩, (Below.refl _ _).setCell (p := ⟨g, 0, none⟩) hB _, Oth.set _ _ _ _⟩
    rw [heap_set_some hg]
    rfl
  · refine (check_used g w (by rw [cell_of hg]; rfl)).mono ?_
    rintro ev w' ⟨rfl, rfl⟩
    exact ⟨rfl, ⟨hB, v, hg, ho⟩, Below.refl _ _, Oth.refl _ _⟩
theorem used_put {B g : Nat} {l : List UInt8} {e d p v v' : Value} {w : World} (hB : B ≤ g) (hp : p = .pointer none ∨ p = .pointer (some ⟨g, 0, none⟩)) (hg : w.heap[g]? = some (.cells #[p, v, e, d] 93 (0, 0))) (ho : w.ownsRow B 5 1 v' l.length (bc l)) :
    WAt B g l e d (w.setCell ⟨g, 1, none⟩ v') := by
  refine ⟨hB, p, v', hp, ?_, own_set ho hg⟩
  rw [heap_set_some hg]
  rfl
set_option maxRecDepth 100000 in
set_option maxHeartbeats 2000000 in
theorem string_any (B g : Nat) (l : List UInt8) (e d : Value) (s : ByteArray) (w : World) (h : WAt B g l e d w) (hlen : l.length + s.size ≤ 140737488355328) (hBw : B ≤ w.heap.size) :
    Calls Tryz.prog 63 #[.pointer (some ⟨g, 0, none⟩), .string s] w fun ev w' => ev = .returned (.tuple #[.int .i64 s.size, .nilIface]) ∧ WAt B g (l ++ s.data.toList) e d w' ∧ Below B w w' ∧ Oth g w w' := by
  obtain ⟨i8, hi8, hz8, hs8, hb8⟩ := info8
  have C := Lib.hid (check_any B g l e d w h)
  clear h
  go_enter Tryz.func63, Tryz.ntmps63
  go_wp2_with fail
  refine (C.out).mono ?_
  rintro ev w1 ⟨rfl, ⟨hB, v, hg, ho⟩, hb1, hoth⟩
  replace hoth := Lib.hid hoth
  have c1 : w1.cell? ⟨g, 1, none⟩ = some v := by rw [cell_of hg]; rfl
  have hoH := Lib.hid ho
  have hgH := Lib.hid hg
  have hb1H := Lib.hid hb1
  clear ho hg hb1 C
  go_wp2_with (at_builtin; refine Lib.wpList_append_own_string _ (by rfl) _ _ 30 9 (by rfl) B 5 i8 Tryz.underlying30 Tryz.underlying9 hi8 hz8 hs8 hb8 _ _ _ (by rfl) hoH.out s (by rfl) (by unfold maxLen; omega) (by omega) (by have := hb1H.out.size; omega) ?_; intro v' w2 hown' hgrow hniff; clear hniff; obtain ⟨ao, n', cap, rfl⟩ := own_slice hown'; obtain ⟨hg2', d1, f1⟩ := after_row hgH.out hoH.out hgrow; have hg2 := Lib.hid hg2'; have hownH := Lib.hid hown'; have hgrowH := Lib.hid hgrow; clear hown' hgrow hg2')
  have hbl := Lib.hid (hb1H.out.grown hgrowH.out (by have := hb1H.out.size; omega) (fun k hk => (hoH.out.lt k hk).1))
  have hln : (l ++ s.data.toList).length = l.length + s.size := by rw [List.length_append, Array.length_toList]; rfl
  have hput := Lib.hid (fun u (hu : w2.ownsRow B 5 1 u (l ++ s.data.toList).length (bc (l ++ s.data.toList))) => used_put (e := e) (d := d) hB (.inr rfl) hg2.out hu)
  rw [hln, bc_append] at hput
  go_ret2
  refine ⟨rfl, hput.out _ hownH.out, hbl.out.setCell (p := ⟨g, 1, none⟩) hB _, (hoth.out.trans (Oth.grown hoH.out hgrowH.out)).trans (Oth.set _ _ _ _)⟩
set_option maxRecDepth 100000 in
set_option maxHeartbeats 2000000 in
theorem byte_any (B g : Nat) (l : List UInt8) (e d : Value) (c : UInt8) (w : World) (h : WAt B g l e d w) (hlen : l.length + 1 ≤ 140737488355328) (hBw : B ≤ w.heap.size) :
    Calls Tryz.prog 64 #[.pointer (some ⟨g, 0, none⟩), .int .u8 (c.toNat : Int)] w fun ev w' => ev = .returned .nilIface ∧ WAt B g (l ++ [c]) e d w' ∧ Below B w w' ∧ Oth g w w' := by
  obtain ⟨i8, hi8, hz8, hs8, hb8⟩ := info8
  have C := Lib.hid (check_any B g l e d w h)
  clear h
  go_enter Tryz.func64, Tryz.ntmps64
  go_wp2_with fail
  refine (C.out).mono ?_
  rintro ev w1 ⟨rfl, ⟨hB, v, hg, ho⟩, hb1, hoth⟩
  replace hoth := Lib.hid hoth
  have c1 : w1.cell? ⟨g, 1, none⟩ = some v := by rw [cell_of hg]; rfl
  have hoH := Lib.hid ho
  have hgH := Lib.hid hg
  have hb1H := Lib.hid hb1
  clear ho hg hb1 C
  go_wp2_with (at_builtin; refine wpList_append_own _ (by rfl) _ _ 30 (by rfl) B 5 i8 _ 1 1 Tryz.underlying30 hi8 hz8 hs8 hb8 (by rfl) (by decide) _ _ _ (by rfl) (hoH.out.alloc _) ⟨w1.heap.size, 0, none⟩ 1 1 [.int .u8 (c.toNat : Int)] (by rfl) (by rfl) (World.news_of_block (heap_alloc_at w1 _)) (by simp [Value.oneCell']) (by unfold maxLen; omega) (by omega) (by have := hb1H.out.size; simp; omega) ?_; intro v' w2 hown' hgrow hniff; clear hniff; obtain ⟨ao, n', cap, rfl⟩ := own_slice hown'; obtain ⟨hg2', d1, f1⟩ := after_row1 hgH.out hoH.out hgrow; have hg2 := Lib.hid hg2'; have hownH := Lib.hid hown'; have hgrowH := Lib.hid hgrow; clear hown' hgrow hg2')
  have hbl := Lib.hid ((hb1H.out.alloc (by have := hb1H.out.size; omega) _).grown hgrowH.out (by have := hb1H.out.size; simp; omega) (fun k hk => (hoH.out.lt k hk).1))
  have hput := Lib.hid (fun u (hu : w2.ownsRow B 5 1 u (l ++ [c]).length (bc (l ++ [c]))) => used_put (e := e) (d := d) hB (.inr rfl) hg2.out hu)
  rw [show (l ++ [c]).length = l.length + 1 from by simp, bc_append] at hput
  go_ret
  refine ⟨rfl, hput.out _ hownH.out, hbl.out.setCell (p := ⟨g, 1, none⟩) hB _, ((hoth.out.trans (Oth.alloc _ _ _)).trans (Oth.grown (hoH.out.alloc _) hgrowH.out)).trans (Oth.set _ _ _ _)⟩
set_option maxRecDepth 100000 in
set_option maxHeartbeats 2000000 in
theorem text_any (B g : Nat) (l : List UInt8) (e d : Value) (w : World) (h : WAt B g l e d w) (h0 : l ≠ []) :
    Calls Tryz.prog 42 #[.pointer (some ⟨g, 0, none⟩)] w fun ev w' => ev = .returned (.string ⟨l.toArray⟩) ∧ Below B w w' := by
  obtain ⟨hB, p, v, hp, hg, hown⟩ := h
  have hl0 : l.length ≠ 0 := by simpa using h0
  obtain ⟨k, cap, cur, rfl, hbk, hk, hnc, hcm, hcs, htake⟩ : ∃ k cap cur, v = .slice (some ⟨k, 0, none⟩) l.length cap ∧ B ≤ k ∧ w.heap[k]? = some (.cells cur 5 (0, 0)) ∧ l.length ≤ cap ∧ cap ≤ maxLen ∧ cur.size = cap * 1 ∧ cur.toList.take (l.length * 1) = bc l := by
    rcases hown.2 with ⟨_, hz⟩ | ⟨k, cap, cur, hv, r⟩
    · exact absurd hz hl0
    · exact ⟨k, cap, cur, hv, r⟩
  have c1 : w.drew.cell? ⟨g, 1, none⟩ = some (.slice (some ⟨k, 0, none⟩) l.length cap) := by
    have : w.drew.heap[g]? = some (.cells #[p, .slice (some ⟨k, 0, none⟩) l.length cap, e, d] 93 (0, 0)) := hg
    rw [cell_of this]; rfl
  have hSD : (Builtin.unsafeSliceData_ #[30] 135 #[.slice (some ⟨k, 0, none⟩) l.length cap]).run Tryz.prog w.drew = .ok (.pointer (some ⟨k, 0, none⟩)) w.drew :=
    Lib.run_unsafeSliceData_row _ _ _ _ _ _ (by omega)
  have hUS : (Builtin.unsafeString_ #[135, 3] 9 #[.pointer (some ⟨k, 0, none⟩), .int .i64 l.length]).run Tryz.prog w.drew = .ok (.string ⟨l.toArray⟩) (w.drew.freeze ⟨k, 0, none⟩ l.length) := by
    refine Lib.run_unsafeString_row w.drew 135 3 9 5 Tryz.underlying135 (by kernel_rfl) k cur.size (by have hg' : w.drew.heap[k]? = some (.cells cur 5 (0, 0)) := hk; simp [World.shape?, hg']) l h0 (by omega) (by unfold maxLen at hcm; omega) ?_
    intro j x hx
    have := hown.cells (g := k) rfl j (.int .u8 x.toNat) (by simp [bc, hx])
    exact this
  clear htake hown hg hk
  go_enter Tryz.func42, Tryz.ntmps42
  go_wp2_with fail
  go_region
  all_goals (go_wp2_with fail; go_ret; exact ⟨rfl, Lib.below_freeze (Below.drew (Below.refl B w)) (p := ⟨k, 0, none⟩) hbk _⟩)
end Go.Proofs.YtbefkoljcacpcaaGreatDoor.Bld
set_option linter.unusedVariables false
set_option linter.unusedSimpArgs false
namespace Go.Proofs.YtbefkoljcacpcaaGreatDoor.Sha
open Go.RowKit Go.Proofs.YtbefkoljcacpcaaGreatDoor.B
def Cnt (n : Int) : Prop := n = 2 ∨ n = 6 ∨ n = 7 ∨ n = 11 ∨ n = 13 ∨ n = 17 ∨ n = 18 ∨ n = 19 ∨ n = 22 ∨ n = 25
theorem ret_int {k : IntKind} {a b : Int} (h : a = b) : Ending.returned (.int k a) = .returned (.int k b) := by rw [h]
theorem ror_val (x : W) (n : Nat) : bits .or .u32 (nv x / 2 ^ n) ((nv x * 2 ^ (32 - n)) % 4294967296) = nv (ror x n) := by
  rw [nv_shr, nv_shl, nv_or]; rfl
theorem ror_val2 (x : W) (n : Nat) : bits .or .u32 ((nv x * 2 ^ (32 - n)) % 4294967296) (nv x / 2 ^ n) = nv (ror x n) := by
  rw [nv_shr, nv_shl, nv_or]
  unfold ror
  congr 1
  exact BitVec.or_comm _ _
theorem rot_2 (x : W) (w : World) :
    Calls Tryz.prog 78 #[.int .u32 (nv x), .int .i64 (-2)] w fun e w' => e = .returned (.int .u32 (nv (ror x 2))) ∧ w = w' := by
  have hr := Lib.hid (ror_val2 x 2)
  have hk : bits .and .u64 (IntKind.u64.wrap (-2)) 31 = 30 := by decide +kernel
  generalize ror x 2 = y at *
  go_enter Tryz.func78, Tryz.ntmps78
  go_wp2
  go_ret
  exact ⟨ret_int (by first | exact hr.out | simpa [IntKind.wrap_u32] using hr.out), rfl⟩
theorem turn_2 (x : W) (w : World) :
    Calls Tryz.prog 65 #[.int .u32 (nv x), .int .i64 2] w fun e w' => e = .returned (.int .u32 (nv (ror x 2))) ∧ w = w' := by
  have C := Lib.hid (rot_2 x w)
  go_enter Tryz.func65, Tryz.ntmps65
  go_wp2_with (go_at_call 78; refine (C.out).mono ?_; rintro e w' ⟨rfl, rfl⟩)
  go_ret
  exact ⟨rfl, rfl⟩
theorem rturn_2 (x : W) (w : World) :
    Calls Tryz.prog 54 #[.int .u32 (nv x), .int .i64 2] w fun e w' => e = .returned (.int .u32 (nv (ror x 2))) ∧ ∃ n, w' = w.drewN n := by
  have hr := Lib.hid (ror_val x 2)
  generalize ror x 2 = y at *
  go_enter Tryz.func54, Tryz.ntmps54
  go_wp2
  go_quiet (fail)
  go_wp2
  go_ret
  exact ⟨ret_int (by first | exact hr.out | simpa [IntKind.wrap_u32] using hr.out), ⟨_, rfl⟩⟩
theorem rot_6 (x : W) (w : World) :
    Calls Tryz.prog 78 #[.int .u32 (nv x), .int .i64 (-6)] w fun e w' => e = .returned (.int .u32 (nv (ror x 6))) ∧ w = w' := by
  have hr := Lib.hid (ror_val2 x 6)
  have hk : bits .and .u64 (IntKind.u64.wrap (-6)) 31 = 26 := by decide +kernel
  generalize ror x 6 = y at *
  go_enter Tryz.func78, Tryz.ntmps78
  go_wp2
  go_ret
  exact ⟨ret_int (by first | exact hr.out | simpa [IntKind.wrap_u32] using hr.out), rfl⟩
theorem turn_6 (x : W) (w : World) :
    Calls Tryz.prog 65 #[.int .u32 (nv x), .int .i64 6] w fun e w' => e = .returned (.int .u32 (nv (ror x 6))) ∧ w = w' := by
  have C := Lib.hid (rot_6 x w)
  go_enter Tryz.func65, Tryz.ntmps65
  go_wp2_with (go_at_call 78; refine (C.out).mono ?_; rintro e w' ⟨rfl, rfl⟩)
  go_ret
  exact ⟨rfl, rfl⟩
theorem rturn_6 (x : W) (w : World) :
    Calls Tryz.prog 54 #[.int .u32 (nv x), .int .i64 6] w fun e w' => e = .returned (.int .u32 (nv (ror x 6))) ∧ ∃ n, w' = w.drewN n := by
  have hr := Lib.hid (ror_val x 6)
  generalize ror x 6 = y at *
  go_enter Tryz.func54, Tryz.ntmps54
  go_wp2
  go_quiet (fail)
  go_wp2
  go_ret
  exact ⟨ret_int (by first | exact hr.out | simpa [IntKind.wrap_u32] using hr.out), ⟨_, rfl⟩⟩
theorem rot_7 (x : W) (w : World) :
    Calls Tryz.prog 78 #[.int .u32 (nv x), .int .i64 (-7)] w fun e w' => e = .returned (.int .u32 (nv (ror x 7))) ∧ w = w' := by
  have hr := Lib.hid (ror_val2 x 7)
  have hk : bits .and .u64 (IntKind.u64.wrap (-7)) 31 = 25 := by decide +kernel
  generalize ror x 7 = y at *
  go_enter Tryz.func78, Tryz.ntmps78
  go_wp2
  go_ret
  exact ⟨ret_int (by first | exact hr.out | simpa [IntKind.wrap_u32] using hr.out), rfl⟩
theorem turn_7 (x : W) (w : World) :
    Calls Tryz.prog 65 #[.int .u32 (nv x), .int .i64 7] w fun e w' => e = .returned (.int .u32 (nv (ror x 7))) ∧ w = w' := by
  have C := Lib.hid (rot_7 x w)
  go_enter Tryz.func65, Tryz.ntmps65
  go_wp2_with (go_at_call 78; refine (C.out).mono ?_; rintro e w' ⟨rfl, rfl⟩)
  go_ret
  exact ⟨rfl, rfl⟩
theorem rturn_7 (x : W) (w : World) :
    Calls Tryz.prog 54 #[.int .u32 (nv x), .int .i64 7] w fun e w' => e = .returned (.int .u32 (nv (ror x 7))) ∧ ∃ n, w' = w.drewN n := by
  have hr := Lib.hid (ror_val x 7)
  generalize ror x 7 = y at *
  go_enter Tryz.func54, Tryz.ntmps54
  go_wp2
  go_quiet (fail)
  go_wp2
  go_ret
  exact ⟨ret_int (by first | exact hr.out | simpa [IntKind.wrap_u32] using hr.out), ⟨_, rfl⟩⟩
theorem rot_11 (x : W) (w : World) :
    Calls Tryz.prog 78 #[.int .u32 (nv x), .int .i64 (-11)] w fun e w' => e = .returned (.int .u32 (nv (ror x 11))) ∧ w = w' := by
  have hr := Lib.hid (ror_val2 x 11)
  have hk : bits .and .u64 (IntKind.u64.wrap (-11)) 31 = 21 := by decide +kernel
  generalize ror x 11 = y at *
  go_enter Tryz.func78, Tryz.ntmps78
  go_wp2
  go_ret
  exact ⟨ret_int (by first | exact hr.out | simpa [IntKind.wrap_u32] using hr.out), rfl⟩
theorem turn_11 (x : W) (w : World) :
    Calls Tryz.prog 65 #[.int .u32 (nv x), .int .i64 11] w fun e w' => e = .returned (.int .u32 (nv (ror x 11))) ∧ w = w' := by
  have C := Lib.hid (rot_11 x w)
  go_enter Tryz.func65, Tryz.ntmps65
  go_wp2_with (go_at_call 78; refine (C.out).mono ?_; rintro e w' ⟨rfl, rfl⟩)
  go_ret
  exact ⟨rfl, rfl⟩
theorem rturn_11 (x : W) (w : World) :
    Calls Tryz.prog 54 #[.int .u32 (nv x), .int .i64 11] w fun e w' => e = .returned (.int .u32 (nv (ror x 11))) ∧ ∃ n, w' = w.drewN n := by
  have hr := Lib.hid (ror_val x 11)
  generalize ror x 11 = y at *
  go_enter Tryz.func54, Tryz.ntmps54
  go_wp2
  go_quiet (fail)
  go_wp2
  go_ret
  exact ⟨ret_int (by first | exact hr.out | simpa [IntKind.wrap_u32] using hr.out), ⟨_, rfl⟩⟩
theorem rot_13 (x : W) (w : World) :
    Calls Tryz.prog 78 #[.int .u32 (nv x), .int .i64 (-13)] w fun e w' => e = .returned (.int .u32 (nv (ror x 13))) ∧ w = w' := by
  have hr := Lib.hid (ror_val2 x 13)
  have hk : bits .and .u64 (IntKind.u64.wrap (-13)) 31 = 19 := by decide +kernel
  generalize ror x 13 = y at *
  go_enter Tryz.func78, Tryz.ntmps78
  go_wp2
  go_ret
  exact ⟨ret_int (by first | exact hr.out | simpa [IntKind.wrap_u32] using hr.out), rfl⟩
theorem turn_13 (x : W) (w : World) :
    Calls Tryz.prog 65 #[.int .u32 (nv x), .int .i64 13] w fun e w' => e = .returned (.int .u32 (nv (ror x 13))) ∧ w = w' := by
  have C := Lib.hid (rot_13 x w)
  go_enter Tryz.func65, Tryz.ntmps65
  go_wp2_with (go_at_call 78; refine (C.out).mono ?_; rintro e w' ⟨rfl, rfl⟩)
  go_ret
  exact ⟨rfl, rfl⟩
theorem rturn_13 (x : W) (w : World) :
    Calls Tryz.prog 54 #[.int .u32 (nv x), .int .i64 13] w fun e w' => e = .returned (.int .u32 (nv (ror x 13))) ∧ ∃ n, w' = w.drewN n := by
  have hr := Lib.hid (ror_val x 13)
  generalize ror x 13 = y at *
  go_enter Tryz.func54, Tryz.ntmps54
  go_wp2
  go_quiet (fail)
  go_wp2
  go_ret
  exact ⟨ret_int (by first | exact hr.out | simpa [IntKind.wrap_u32] using hr.out), ⟨_, rfl⟩⟩
theorem rot_17 (x : W) (w : World) :
    Calls Tryz.prog 78 #[.int .u32 (nv x), .int .i64 (-17)] w fun e w' => e = .returned (.int .u32 (nv (ror x 17))) ∧ w = w' := by
  have hr := Lib.hid (ror_val2 x 17)
  have hk : bits .and .u64 (IntKind.u64.wrap (-17)) 31 = 15 := by decide +kernel
  generalize ror x 17 = y at *
  go_enter Tryz.func78, Tryz.ntmps78
  go_wp2
  go_ret
  exact ⟨ret_int (by first | exact hr.out | simpa [IntKind.wrap_u32] using hr.out), rfl⟩
theorem turn_17 (x : W) (w : World) :
    Calls Tryz.prog 65 #[.int .u32 (nv x), .int .i64 17] w fun e w' => e = .returned (.int .u32 (nv (ror x 17))) ∧ w = w' := by
  have C := Lib.hid (rot_17 x w)
  go_enter Tryz.func65, Tryz.ntmps65
  go_wp2_with (go_at_call 78; refine (C.out).mono ?_; rintro e w' ⟨rfl, rfl⟩)
  go_ret
  exact ⟨rfl, rfl⟩
theorem rturn_17 (x : W) (w : World) :
    Calls Tryz.prog 54 #[.int .u32 (nv x), .int .i64 17] w fun e w' => e = .returned (.int .u32 (nv (ror x 17))) ∧ ∃ n, w' = w.drewN n := by
  have hr := Lib.hid (ror_val x 17)
  generalize ror x 17 = y at *
  go_enter Tryz.func54, Tryz.ntmps54
  go_wp2
  go_quiet (fail)
  go_wp2
  go_ret
  exact ⟨ret_int (by first | exact hr.out | simpa [IntKind.wrap_u32] using hr.out), ⟨_, rfl⟩⟩
theorem rot_18 (x : W) (w : World) :
    Calls Tryz.prog 78 #[.int .u32 (nv x), .int .i64 (-18)] w fun e w' => e = .returned (.int .u32 (nv (ror x 18))) ∧ w = w' := by
  have hr := Lib.hid (ror_val2 x 18)
  have hk : bits .and .u64 (IntKind.u64.wrap (-18)) 31 = 14 := by decide +kernel
  generalize ror x 18 = y at *
  go_enter Tryz.func78, Tryz.ntmps78
  go_wp2
  go_ret
  exact ⟨ret_int (by first | exact hr.out | simpa [IntKind.wrap_u32] using hr.out), rfl⟩
theorem turn_18 (x : W) (w : World) :
    Calls Tryz.prog 65 #[.int .u32 (nv x), .int .i64 18] w fun e w' => e = .returned (.int .u32 (nv (ror x 18))) ∧ w = w' := by
  have C := Lib.hid (rot_18 x w)
  go_enter Tryz.func65, Tryz.ntmps65
  go_wp2_with (go_at_call 78; refine (C.out).mono ?_; rintro e w' ⟨rfl, rfl⟩)
  go_ret
  exact ⟨rfl, rfl⟩
theorem rturn_18 (x : W) (w : World) :
    Calls Tryz.prog 54 #[.int .u32 (nv x), .int .i64 18] w fun e w' => e = .returned (.int .u32 (nv (ror x 18))) ∧ ∃ n, w' = w.drewN n := by
  have hr := Lib.hid (ror_val x 18)
  generalize ror x 18 = y at *
  go_enter Tryz.func54, Tryz.ntmps54
  go_wp2
  go_quiet (fail)
  go_wp2
  go_ret
  exact ⟨ret_int (by first | exact hr.out | simpa [IntKind.wrap_u32] using hr.out), ⟨_, rfl⟩⟩
theorem rot_19 (x : W) (w : World) :
    Calls Tryz.prog 78 #[.int .u32 (nv x), .int .i64 (-19)] w fun e w' => e = .returned (.int .u32 (nv (ror x 19))) ∧ w = w' := by
  have hr := Lib.hid (ror_val2 x 19)
  have hk : bits .and .u64 (IntKind.u64.wrap (-19)) 31 = 13 := by decide +kernel
  generalize ror x 19 = y at *
  go_enter Tryz.func78, Tryz.ntmps78
  go_wp2
  go_ret
  exact ⟨ret_int (by first | exact hr.out | simpa [IntKind.wrap_u32] using hr.out), rfl⟩
theorem turn_19 (x : W) (w : World) :
    Calls Tryz.prog 65 #[.int .u32 (nv x), .int .i64 19] w fun e w' => e = .returned (.int .u32 (nv (ror x 19))) ∧ w = w' := by
  have C := Lib.hid (rot_19 x w)
  go_enter Tryz.func65, Tryz.ntmps65
  go_wp2_with (go_at_call 78; refine (C.out).mono ?_; rintro e w' ⟨rfl, rfl⟩)
  go_ret
  exact ⟨rfl, rfl⟩
theorem rturn_19 (x : W) (w : World) :
    Calls Tryz.prog 54 #[.int .u32 (nv x), .int .i64 19] w fun e w' => e = .returned (.int .u32 (nv (ror x 19))) ∧ ∃ n, w' = w.drewN n := by
  have hr := Lib.hid (ror_val x 19)
  generalize ror x 19 = y at *
  go_enter Tryz.func54, Tryz.ntmps54
  go_wp2
  go_quiet (fail)
  go_wp2
  go_ret
  exact ⟨ret_int (by first | exact hr.out | simpa [IntKind.wrap_u32] using hr.out), ⟨_, rfl⟩⟩
theorem rot_22 (x : W) (w : World) :
    Calls Tryz.prog 78 #[.int .u32 (nv x), .int .i64 (-22)] w fun e w' => e = .returned (.int .u32 (nv (ror x 22))) ∧ w = w' := by
  have hr := Lib.hid (ror_val2 x 22)
  have hk : bits .and .u64 (IntKind.u64.wrap (-22)) 31 = 10 := by decide +kernel
  generalize ror x 22 = y at *
  go_enter Tryz.func78, Tryz.ntmps78
  go_wp2
  go_ret
  exact ⟨ret_int (by first | exact hr.out | simpa [IntKind.wrap_u32] using hr.out), rfl⟩
theorem turn_22 (x : W) (w : World) :
    Calls Tryz.prog 65 #[.int .u32 (nv x), .int .i64 22] w fun e w' => e = .returned (.int .u32 (nv (ror x 22))) ∧ w = w' := by
  have C := Lib.hid (rot_22 x w)
  go_enter Tryz.func65, Tryz.ntmps65
  go_wp2_with (go_at_call 78; refine (C.out).mono ?_; rintro e w' ⟨rfl, rfl⟩)
  go_ret
  exact ⟨rfl, rfl⟩
theorem rturn_22 (x : W) (w : World) :
    Calls Tryz.prog 54 #[.int .u32 (nv x), .int .i64 22] w fun e w' => e = .returned (.int .u32 (nv (ror x 22))) ∧ ∃ n, w' = w.drewN n := by
  have hr := Lib.hid (ror_val x 22)
  generalize ror x 22 = y at *
  go_enter Tryz.func54, Tryz.ntmps54
  go_wp2
  go_quiet (fail)
  go_wp2
  go_ret
  exact ⟨ret_int (by first | exact hr.out | simpa [IntKind.wrap_u32] using hr.out), ⟨_, rfl⟩⟩
theorem rot_25 (x : W) (w : World) :
    Calls Tryz.prog 78 #[.int .u32 (nv x), .int .i64 (-25)] w fun e w' => e = .returned (.int .u32 (nv (ror x 25))) ∧ w = w' := by
  have hr := Lib.hid (ror_val2 x 25)
  have hk : bits .and .u64 (IntKind.u64.wrap (-25)) 31 = 7 := by decide +kernel
  generalize ror x 25 = y at *
  go_enter Tryz.func78, Tryz.ntmps78
  go_wp2
  go_ret
  exact ⟨ret_int (by first | exact hr.out | simpa [IntKind.wrap_u32] using hr.out), rfl⟩
theorem turn_25 (x : W) (w : World) :
    Calls Tryz.prog 65 #[.int .u32 (nv x), .int .i64 25] w fun e w' => e = .returned (.int .u32 (nv (ror x 25))) ∧ w = w' := by
  have C := Lib.hid (rot_25 x w)
  go_enter Tryz.func65, Tryz.ntmps65
  go_wp2_with (go_at_call 78; refine (C.out).mono ?_; rintro e w' ⟨rfl, rfl⟩)
  go_ret
  exact ⟨rfl, rfl⟩
theorem rturn_25 (x : W) (w : World) :
    Calls Tryz.prog 54 #[.int .u32 (nv x), .int .i64 25] w fun e w' => e = .returned (.int .u32 (nv (ror x 25))) ∧ ∃ n, w' = w.drewN n := by
  have hr := Lib.hid (ror_val x 25)
  generalize ror x 25 = y at *
  go_enter Tryz.func54, Tryz.ntmps54
  go_wp2
  go_quiet (fail)
  go_wp2
  go_ret
  exact ⟨ret_int (by first | exact hr.out | simpa [IntKind.wrap_u32] using hr.out), ⟨_, rfl⟩⟩
theorem turn_any (x : W) (n : Int) (hn : Cnt n) (w : World) :
    Calls Tryz.prog 65 #[.int .u32 (nv x), .int .i64 n] w fun e w' => e = .returned (.int .u32 (nv (ror x n.toNat))) ∧ w = w' := by
  rcases hn with rfl | rfl | rfl | rfl | rfl | rfl | rfl | rfl | rfl | rfl
  · exact turn_2 x w
  · exact turn_6 x w
  · exact turn_7 x w
  · exact turn_11 x w
  · exact turn_13 x w
  · exact turn_17 x w
  · exact turn_18 x w
  · exact turn_19 x w
  · exact turn_22 x w
  · exact turn_25 x w
theorem rturn_any (x : W) (n : Int) (hn : Cnt n) (w : World) :
    Calls Tryz.prog 54 #[.int .u32 (nv x), .int .i64 n] w fun e w' => e = .returned (.int .u32 (nv (ror x n.toNat))) ∧ ∃ n, w' = w.drewN n := by
  rcases hn with rfl | rfl | rfl | rfl | rfl | rfl | rfl | rfl | rfl | rfl
  · exact rturn_2 x w
  · exact rturn_6 x w
  · exact rturn_7 x w
  · exact rturn_11 x w
  · exact rturn_13 x w
  · exact rturn_17 x w
  · exact rturn_18 x w
  · exact rturn_19 x w
  · exact rturn_22 x w
  · exact rturn_25 x w
end Go.Proofs.YtbefkoljcacpcaaGreatDoor.Sha
set_option linter.unusedVariables false
namespace Go.Proofs.YtbefkoljcacpcaaGreatDoor.Tm
open Go Go.Lib
def valFrom (a : Nat) (l : List UInt8) : Nat := l.foldl (fun a c => 10 * a + (c.toNat - 48)) a
theorem valFrom_ge : ∀ (l : List UInt8) (a : Nat), a ≤ valFrom a l
  | [], a => Nat.le_refl _
  | c :: l, a => by
    have := valFrom_ge l (10 * a + (c.toNat - 48))
    show a ≤ valFrom (10 * a + (c.toNat - 48)) l
    omega
theorem parse_digits : ∀ (l : List UInt8) (a : Nat), (∀ c ∈ l, isD c) → valFrom a l < 18446744073709551616 → parseUint10 a l = .ok (valFrom a l)
  | [], a, _, _ => rfl
  | c :: l, a, hd, hv => by
    have h1 : 48 ≤ c.toNat ∧ c.toNat ≤ 57 := hd c (by simp)
    have e : valFrom a (c :: l) = valFrom (10 * a + (c.toNat - 48)) l := rfl
    rw [e] at hv ⊢
    have h2 := valFrom_ge l (10 * a + (c.toNat - 48))
    unfold parseUint10
    rw [if_pos h1, if_neg (by omega), if_neg (by omega), show a * 10 + (c.toNat - 48) = 10 * a + (c.toNat - 48) from by omega]
    exact parse_digits l _ (fun d hd' => hd d (by simp [hd'])) hv
theorem parseMag_dec (k : Nat) (h : k < 18446744073709551616) : parseMag (decDigits k) = .ok k := by
  have e : valFrom 0 (decDigits k) = k := val_dec k
  unfold parseMag
  rw [if_neg (dec_ne k), parse_digits (decDigits k) 0 (fun c hc => dec_digit k c hc) (by rw [e]; exact h), e]
theorem atoi_itoa (n : Int) (h0 : -9223372036854775808 ≤ n) (h1 : n ≤ 9223372036854775807) : atoiAll (itoa n) = .ok n := by
  by_cases hn : 0 ≤ n
  · obtain ⟨k, rfl⟩ : ∃ k : Nat, n = (k : Int) := ⟨n.toNat, by omega⟩
    rw [itoa_nonneg]
    obtain ⟨c, r, hc⟩ := List.exists_cons_of_ne_nil (dec_ne k)
    have hd := dec_digit k c (by rw [hc]; simp)
    have hp := parseMag_dec k (by omega)
    rw [hc] at hp ⊢
    rw [atoiAll_plain c r (by omega) (by omega), hp]
    unfold signless
    simp only []
    rw [if_neg (by omega)]
  · obtain ⟨k, rfl, hk⟩ : ∃ k : Nat, n = -(k : Int) ∧ 1 ≤ k := ⟨(-n).toNat, by omega, by omega⟩
    rw [itoa_neg k hk, atoiAll_minus, parseMag_dec k (by omega)]
    unfold signed
    simp only []
    rw [if_neg (by omega)]
theorem atoiSat_bounds (l : List UInt8) : -9223372036854775808 ≤ atoiSat l ∧ atoiSat l ≤ 9223372036854775807 := by
  unfold atoiSat
  split <;> omega
end Go.Proofs.YtbefkoljcacpcaaGreatDoor.Tm
set_option linter.unusedVariables false
set_option linter.unusedSimpArgs false
namespace Go.Proofs.YtbefkoljcacpcaaGreatDoor.B
open Go Go.RowKit
def plainOp : Op → Bool
  | .move _ | .assign _ | .pick .. | .load .. | .binOp .. | .unOp .. | .convert .. | .slice .. | .fieldAddr .. | .field .. | .indexAddr .. | .index .. | .extract .. | .build .. | .nilCheck _ | .lookup .. => true
  | _ => false
section
variable {P : Program}
theorem v_ne (s : Sem Value) (w w' : World) (f : FuncId) (args : Array Value) : ((do pure (Next.value (← s))) : Sem Next).run P w ≠ .ok (.enter f args) w' := by
  simp
  cases s.run P w <;> simp
theorem plain_no (ρ : Operand → Value) (o : Oper) (h : plainOp o.op = true) (w w' : World) (f : FuncId) (args : Array Value) : (execOp ρ o).run P w ≠ .ok (.enter f args) w' := by
  unfold execOp
  cases ho : o.op <;> rw [ho] at h <;> first | (cases h; done) | (simp only []; exact v_ne _ _ _ _ _) | (simp; done) | skip
  · simp only [Sem.run_bind]
    cases (asBool (ρ _)).run P w <;> simp
  · simp only []
    split
    · unfold runtimePanic; simp
    · unfold runtimePanic; simp
    · unfold runtimePanic; simp
    · split
      · unfold runtimePanic; simp
      · simp only [Sem.run_bind]
        cases (program).run P w with
        | halt h w1 => simp
        | ok p w1 =>
          simp only [Result.andThen_ok]
          cases (nilAhead _ _ _ _).run P w1 with
          | halt h w2 => simp
          | ok b w2 =>
            simp only [Result.andThen_ok]
            split
            · simp only [Sem.run_bind]
              cases (unsupported _).run P w2 <;> simp
            · simp
      · simp
    · simp
variable {ops : Array Oper} {md : Region.Mode} {C : World → Prop}
def YieldsR (P : Program) (ops : Array Oper) (C : World → Prop) (o : Oper) (v : Value) (a : Act) : Prop :=
  (Region.wanted o (yielded ops a.tmps) = true ∧ ∀ w, C w → (execOp a.eval o).run P w = .ok (.value v) w ∨ ((execOp a.eval o).run P w = .ok .skip w ∧ v = undef)) ∨
  (Region.wanted o (yielded ops a.tmps) = false ∧ v = undef)
theorem YieldsR.of_same {o : Oper} {v : Value} {a a' : Act} (hy : YieldsR P ops C o v a) (he : execOp a'.eval o = execOp a.eval o)
    (hw : Region.wanted o (yielded ops a'.tmps) = Region.wanted o (yielded ops a.tmps)) : YieldsR P ops C o v a' := by
  unfold YieldsR at *
  rw [he, hw]
  exact hy
theorem YieldsR.op {i : Nat} {o : Oper} {v : Value} {a : Act} {w : World} {Q : Exit → Act → World → Prop} (hi : ops[i]? = some o) (hy : YieldsR P ops C o v a) (hC : C w) {K : Act → World → Prop} (h : K (a.put o.dst v) w) : wpOp P ops Q i K a w := by
  unfold wpOp
  simp only [hi]
  rcases hy with ⟨hw, hv⟩ | ⟨hw, rfl⟩
  · simp only [hw, if_true]
    left
    unfold Oper.wp
    rcases hv w hC with h1 | ⟨h1, h2⟩
    · rw [h1]; exact h
    · rw [h1, Oper.upon_skip, ← h2]; exact h
  · simp only [hw, Bool.false_eq_true, if_false]; exact h
theorem yieldsR_of_quiet {o : Oper} {a : Act} {K : Act → Prop} (hp : plainOp o.op = true) (h : if Region.wanted o (yielded ops a.tmps) then o.quiet P a C K else K (a.put o.dst undef)) :
    ∃ v, YieldsR P ops C o v a ∧ K (a.put o.dst v) := by
  by_cases hw : Region.wanted o (yielded ops a.tmps) = true
  · rw [if_pos hw] at h
    obtain ⟨v, h1, h2⟩ := h
    refine ⟨v, .inl ⟨hw, fun w hC => ?_⟩, h2⟩
    have h3 := h1 w hC
    unfold Oper.quietAt at h3
    have hn := plain_no (P := P) a.eval o hp w
    generalize (execOp a.eval o).run P w = r at *
    cases r with
    | ok n w' =>
      cases n <;> simp only [Oper.quietUpon] at h3
      case value u => obtain ⟨rfl, rfl⟩ := h3; exact .inl rfl
      case skip => obtain ⟨rfl, rfl⟩ := h3; exact .inr ⟨rfl, rfl⟩
      case enter f args => exact absurd rfl (hn _ f args)
    | halt x w' => simp only [Oper.quietUpon] at h3
  · rw [if_neg hw] at h
    exact ⟨undef, .inr ⟨by simpa using hw, rfl⟩, h⟩
def stepPost (Q : Exit → Act → World → Prop) (K : Act → World → Prop) : Exit → Act → World → Prop
  | .normal, a, w => K a w
  | .panic _, _, _ => False
  | e, a, w => Q e a w
theorem stepPost_last {Q : Exit → Act → World → Prop} {a : Act} {w : World} (h : Q .normal a w) : stepPost Q (fun a' w' => Q .normal a' w') .normal a w := h
theorem wp_post {o : Oper} {a : Act} {w : World} {K K' : Act → World → Prop} {Q Q' : Exit → Act → World → Prop} (hp : ∀ c a w, Q (.panic c) a w → Q' (.panic c) a w) (ho : LetsOut Q → LetsOut Q') (hk : ∀ a w, K a w → K' a w) (h : o.wp P a w K Q) : o.wp P a w K' Q' := by
  unfold Oper.wp at *
  generalize (execOp a.eval o).run P w = r at *
  cases r with
  | ok n w' =>
    cases n <;> simp only [Oper.upon] at h ⊢
    case value u => exact hk _ _ h
    case skip => exact hk _ _ h
    case defer d => exact hk _ _ h
    case enter f args =>
      refine Calls.mono h fun e w'' he => ?_
      cases e with
      | returned u => exact hk _ _ he
      | panicked c => exact hp _ _ _ he
      | outgrown => exact ho he
    case row row args => exact Rows.mono h fun u w'' he => hk _ _ he
  | halt x w' =>
    cases x <;> simp only [Oper.upon] at h ⊢
    case panic u => exact hp _ _ _ h
theorem wpOp_of_list {i : Nat} {o : Oper} (hi : ops[i]? = some o) {K : Act → World → Prop} {Q : Exit → Act → World → Prop} {a : Act} {w : World} (h : wpList P ops (stepPost Q K) [o] a w) : wpOp P ops (NoPanic Q) i K a w := by
  unfold wpOp
  simp only [hi]
  unfold wpList at h
  have ho : LetsOut (stepPost Q K) → LetsOut (NoPanic Q) := fun ⟨a, w, h⟩ => ⟨a, w, h⟩
  split
  · rename_i hw
    rw [if_pos hw] at h
    rcases h with h | ⟨h1, h2⟩
    · exact .inl (wp_post (fun _ _ _ h => h) ho (fun _ _ h => h) h)
    · exact .inr ⟨h1, ho h2⟩
  · rename_i hw
    rw [if_neg hw] at h
    exact h
def wpAnyC (P : Program) (md : Region.Mode) (ops : Array Oper) (S : World → Prop) (Q : Exit → Act → World → Prop) (n : Nat) : Nat → Array Bool → Act → World → Prop
  | 0, listed, a, w => Region.ready md ops listed = [] ∧ Q .normal a w
  | f + 1, listed, a, w => Region.ready md ops listed ≠ [] ∧ ∀ i ∈ Region.ready md ops listed, wpOp P ops (NoPanic Q) i (fun a' w' => (i ≠ n → S w') ∧ wpAnyC P md ops S Q n f (listed.setIfInBounds i true) a' w') a w
theorem wpAny_of_C {S : World → Prop} {Q : Exit → Act → World → Prop} {n : Nat} : ∀ (f : Nat) (listed : Array Bool) (a : Act) (w : World), wpAnyC P md ops S Q n f listed a w → wpAny P md ops (NoPanic Q) f listed a w
  | 0, _, _, _, h => ⟨h.1, h.2⟩
  | f + 1, _, _, _, h => ⟨fun e => absurd e h.1, fun i hi => wpOp_mono (fun a' w' hh => wpAny_of_C f _ a' w' hh.2) (h.2 i hi)⟩
theorem wpOp_putR {j : Nat} {oi oj : Oper} {v : Value} {S : World → Prop} {Q : Exit → Act → World → Prop} (hj : ops[j]? = some oj) (hap : oi.apart ops oj = true)
    (hsi : ∀ cs b, oi.op ≠ .select cs b) (hsj : ∀ cs b, oj.op ≠ .select cs b) {K : Act → World → Prop} {a : Act} {w : World}
    (hy : YieldsR P ops S oi v a) (h : wpOp P ops (NoPanic Q) j K (a.put oi.dst v) w) :
    wpOp P ops (NoPanic Q) j (fun a' w' => YieldsR P ops S oi v a' ∧ K (a'.put oi.dst v) w') a w := by
  obtain ⟨h1, h2, h3⟩ := Oper.apart_spec hap
  have keep : ∀ (a : Act), YieldsR P ops S oi v a → ∀ u, YieldsR P ops S oi v (a.put oj.dst u) := fun a hy u =>
    hy.of_same (execOp_put oi hsi a oj.dst u h3) (wanted_put oi a oj.dst u h3)
  have keepD : ∀ d, YieldsR P ops S oi v { a with defers := d :: a.defers } := fun d => hy.of_same rfl rfl
  unfold wpOp at *
  simp only [hj] at *
  rw [wanted_put oj a oi.dst v h1] at h
  split
  · rename_i hw
    simp only [hw, if_true] at h
    rcases h with h | ⟨hasks, hlets⟩
    case inr => exact .inr ⟨by unfold Oper.asks at *; rw [execOp_put oj hsj a oi.dst v h1] at hasks; exact hasks, hlets⟩
    refine .inl ?_
    unfold Oper.wp at *
    rw [execOp_put oj hsj a oi.dst v h1] at h
    generalize (execOp a.eval oj).run P w = r at *
    cases r with
    | ok n w' =>
      cases n <;> simp only [Oper.upon] at h ⊢
      case value u => exact ⟨keep a hy u, by rw [← Act.put_comm a v u h2]; exact h⟩
      case skip => exact ⟨keep a hy _, by rw [← Act.put_comm a v undef h2]; exact h⟩
      case defer d =>
        refine ⟨keep _ (keepD d) _, ?_⟩
        rw [← Act.put_comm _ v undef h2, ← Act.put_defers]
        exact h
      case enter f args =>
        refine Calls.mono h fun e w'' he => ?_
        cases e with
        | returned u => exact ⟨keep a hy u, by rw [← Act.put_comm a v u h2]; exact he⟩
        | panicked c => exact he
        | outgrown => exact he
      case row row args => exact Rows.mono h fun u w'' he => ⟨keep a hy u, by rw [← Act.put_comm a v u h2]; exact he⟩
    | halt x w' =>
      cases x <;> simp only [Oper.upon] at h ⊢
      case panic u => exact h
  · rename_i hw
    simp only [hw] at h
    exact ⟨keep a hy _, by rw [← Act.put_comm a v undef h2]; exact h⟩
theorem wpAnyC_first {S : World → Prop} {Q : Exit → Act → World → Prop} {n i : Nat} {oi : Oper} {v : Value} (hi : ops[i]? = some oi) (hsel : ∀ (j : Nat) (o : Oper) cs b, ops[j]? = some o → o.op ≠ .select cs b)
    (hs : Region.sinkB md ops n = true) (hc : Region.chainB md ops n = true) (hn : n < ops.size) (hin : i < n) :
    ∀ (f : Nat) (listed : Array Bool) (a : Act) (w : World), S w → HeadInv md ops n listed →
      (∀ j oj, ops[j]? = some oj → j ≠ i → listed.getD j true = false → (∀ e ∈ oj.after, Region.binds md e = true → e.on ≠ i) → oi.apart ops oj = true) →
      i ∈ Region.ready md ops listed → YieldsR P ops S oi v a →
      wpAnyC P md ops S Q n f (listed.setIfInBounds i true) (a.put oi.dst v) w → wpAnyC P md ops S Q n (f + 1) listed a w := by
  intro f
  induction f with
  | zero =>
    intro listed a w hS inv _ hr hy H
    refine ⟨fun h => (by rw [h] at hr; cases hr), fun j hj => ?_⟩
    by_cases hji : j = i
    · subst hji; exact hy.op hi hS ⟨fun _ => hS, H⟩
    · have := ready_mono hj hji
      rw [H.1] at this
      cases this
  | succ f ih =>
    intro listed a w hS inv hfree hr hy H
    have hun := (mem_ready.1 hr).1
    refine ⟨fun h => (by rw [h] at hr; cases hr), fun j hj => ?_⟩
    have hjn : j < n := by
      rcases Nat.lt_or_ge j n with h | h
      · exact h
      · exact absurd hj (tail_waits hs hc hn inv _ i rfl hin hun j h)
    by_cases hji : j = i
    · subst hji; exact hy.op hi hS ⟨fun _ => hS, H⟩
    · have h1 := H.2 j (ready_mono hj hji)
      obtain ⟨hjun, oj, hoj, hall⟩ := mem_ready.1 hj
      have hnot : ∀ e ∈ oj.after, Region.binds md e = true → e.on ≠ i := fun e he hb heq => by
        have h1 := hall e he hb
        rw [heq, getD_both hun] at h1
        cases h1
      have h2 := wpOp_putR hoj (hfree j oj hoj hji hjun hnot) (fun cs b => hsel i oi cs b hi) (fun cs b => hsel j oj cs b hoj) hy h1
      have hfree' : ∀ k ok, ops[k]? = some ok → k ≠ i → (listed.setIfInBounds j true).getD k true = false →
          (∀ e ∈ ok.after, Region.binds md e = true → e.on ≠ i) → oi.apart ops ok = true := fun k ok hk hki hun hno => by
        refine hfree k ok hk hki ?_ hno
        by_cases hjk : j = k
        · subst hjk; exact hjun
        · rw [getD_set_ne true hjk] at hun; exact hun
      refine wpOp_mono (fun a' w' h3 => ⟨fun _ => h3.2.1 (by omega), ih (listed.setIfInBounds j true) a' w' (h3.2.1 (by omega)) (inv.set hj hjn) hfree' (ready_mono hr (Ne.symm hji)) h3.1 ?_⟩) h2
      rw [Array.setIfInBounds_comm _ _ hji]
      exact h3.2.2
def readsB (md : Region.Mode) (ops : Array Oper) (n : Nat) (ks : List Nat) : List Nat → Array Bool → Bool
  | [], listed => seqsB md ops n ks listed
  | i :: rs, listed => decide (i < n) && (match ops[i]? with | some o => plainOp o.op | none => false) && (Region.ready md ops listed).contains i && Region.free md ops listed i && readsB md ops n ks rs (listed.setIfInBounds i true)
where
  seqsB (md : Region.Mode) (ops : Array Oper) (n : Nat) : List Nat → Array Bool → Bool
    | [], listed => false
    | [k], listed => decide (k = n) && decide (Region.ready md ops listed = [k]) && (Region.ready md ops (listed.setIfInBounds k true)).isEmpty
    | k :: k2 :: ks, listed => decide (Region.ready md ops listed = [k]) && seqsB md ops n (k2 :: ks) (listed.setIfInBounds k true)
def wpChain (P : Program) (ops : Array Oper) (S : World → Prop) (Q : Exit → Act → World → Prop) : List Oper → Act → World → Prop
  | [], _, _ => False
  | [o], a, w => wpList P ops (stepPost Q (fun a' w' => Q .normal a' w')) [o] a w
  | o :: o2 :: l, a, w => wpList P ops (stepPost Q (fun a' w' => S w' ∧ wpChain P ops S Q (o2 :: l) a' w')) [o] a w
theorem wpAnyC_chain {S : World → Prop} {Q : Exit → Act → World → Prop} {n : Nat} : ∀ (ks : List Nat) (l : List Oper) (listed : Array Bool) (a : Act) (w : World), l.map some = ks.map (fun k => ops[k]?) → readsB.seqsB md ops n ks listed = true →
    wpChain P ops S Q l a w → wpAnyC P md ops S Q n ks.length listed a w
  | [], _, _, _, _, _, hB, _ => by simp [readsB.seqsB] at hB
  | [k], l, listed, a, w, hl, hB, h => by
    obtain ⟨o, rfl⟩ : ∃ o, l = [o] := by
      have h1 := congrArg List.length hl
      rw [List.length_map, List.length_map, List.length_singleton] at h1
      exact List.length_eq_one_iff.1 h1
    · simp only [List.map_cons, List.map_nil, List.cons.injEq, and_true] at hl
      simp only [readsB.seqsB, Bool.and_eq_true, decide_eq_true_eq, List.isEmpty_iff] at hB
      refine ⟨by rw [hB.1.2]; simp, fun i hi => ?_⟩
      rw [hB.1.2] at hi
      obtain rfl : i = k := by simpa using hi
      exact wpOp_mono (fun a' w' hh => ⟨fun hne => absurd hB.1.1 hne, hB.2, hh⟩) (wpOp_of_list hl.symm h)
  | k :: k2 :: ks, l, listed, a, w, hl, hB, h => by
    obtain ⟨o, o2, l, rfl⟩ : ∃ o o2 l', l = o :: o2 :: l' := by
      cases l with
      | nil => simp at hl
      | cons o l =>
        cases l with
        | nil => simp at hl
        | cons o2 l => exact ⟨o, o2, l, rfl⟩
    · simp only [List.map_cons, List.cons.injEq] at hl
      simp only [readsB.seqsB, Bool.and_eq_true, decide_eq_true_eq] at hB
      refine ⟨by rw [hB.1]; simp, fun i hi => ?_⟩
      rw [hB.1] at hi
      obtain rfl : i = k := by simpa using hi
      exact wpOp_mono (fun a' w' hh => ⟨fun _ => hh.1, wpAnyC_chain (k2 :: ks) (o2 :: l) _ a' w' (by simp only [List.map_cons, List.cons.injEq]; exact hl.2) hB.2 hh.2⟩) (wpOp_of_list hl.1.symm h)
theorem wpAnyC_reads {S : World → Prop} {Q : Exit → Act → World → Prop} {n : Nat} (hsel : Region.noSelect ops = true) (hs : Region.sinkB md ops n = true) (hc : Region.chainB md ops n = true) (hn : n < ops.size) (ks : List Nat) (lk : List Oper) (hk : lk.map some = ks.map (fun k => ops[k]?)) :
    ∀ (rs : List Nat) (lr : List Oper) (listed : Array Bool) (a : Act) (w : World), S w → lr.map some = rs.map (fun k => ops[k]?) → HeadInv md ops n listed → readsB md ops n ks rs listed = true →
    wpQuiet P ops S (fun a' => wpChain P ops S Q lk a' w) lr a → wpAnyC P md ops S Q n (rs.length + ks.length) listed a w
  | [], lr, listed, a, w, hS, hl, inv, hB, h => by
    obtain rfl : lr = [] := by simpa using hl
    rw [List.length_nil, Nat.zero_add]
    exact wpAnyC_chain ks lk listed a w hk (by simpa [readsB] using hB) h
  | i :: rs, lr, listed, a, w, hS, hl, inv, hB, h => by
    obtain ⟨o, lr, rfl⟩ : ∃ o l', lr = o :: l' := by
      cases lr with
      | nil => simp at hl
      | cons o l => exact ⟨o, l, rfl⟩
    · simp only [List.map_cons, List.cons.injEq] at hl
      simp only [readsB, Bool.and_eq_true, decide_eq_true_eq] at hB
      obtain ⟨⟨⟨⟨hin, hp⟩, hr⟩, hf⟩, hB'⟩ := hB
      rw [← hl.1] at hp
      have hr' : i ∈ Region.ready md ops listed := by simpa using hr
      obtain ⟨v, hy, hK⟩ := yieldsR_of_quiet (ops := ops) hp h
      rw [List.length_cons, show rs.length + 1 + ks.length = (rs.length + ks.length) + 1 from by omega]
      exact wpAnyC_first hl.1.symm (Region.noSelect_spec hsel) hs hc hn hin _ listed a w hS inv (Region.free_spec hl.1.symm hf) hr' hy
        (wpAnyC_reads hsel hs hc hn ks lk hk rs lr _ _ w hS hl.2 (inv.set hr' hin) hB' hK)
def ordB (l : List Oper) (rs ks : List Nat) : Bool :=
  let ops := l.toArray
  let n := ops.size - 1
  Region.noSelect ops && decide (n < ops.size) && Region.sinkB .any ops n && Region.chainB .any ops n && decide (rs.length + ks.length = ops.size) && readsB .any ops n ks rs (Array.replicate ops.size false)
structure InS (S : World → Prop) where
  val : World
  mem : S val
def pick (l : List Oper) : List Nat → List Oper
  | [] => []
  | k :: ks => l.getD k { dst := none, op := .move (.tmp 0), type := 0, pos := "", after := #[], guard := none } :: pick l ks
def pickB (l : List Oper) (ks : List Nat) : Bool := ks.all fun k => decide (k < l.length)
theorem pick_map (l : List Oper) : ∀ ks : List Nat, pickB l ks = true → (pick l ks).map some = ks.map (fun k => l.toArray[k]?)
  | [], _ => rfl
  | k :: ks, h => by
    simp only [pickB, List.all_cons, Bool.and_eq_true, decide_eq_true_eq] at h
    rw [pick, List.map_cons, List.map_cons, pick_map l ks h.2, List.getD_eq_getElem?_getD, List.getElem?_eq_getElem h.1]
    simp [h.1]
theorem wp_region_reads {id : Nat} {Q : Exit → Act → World → Prop} {a : Act} {w : World} {l : List Oper} (S : World → Prop) (rs ks : List Nat)
    (hm : P.follows .mixedOrders = true) (hB : (ordB l rs ks && (pickB l rs && pickB l ks)) = true) (hS : S w.drew)
    (h : wpQuiet P l.toArray (fun W => ∃ x : InS S, W = x.val) (fun a' => wpChain P l.toArray (fun W => ∃ x : InS S, W = x.val) Q (pick l ks) a' w.drew) (pick l rs) a) : (Code.region id l.toArray true).wp P Q a w := by
  rw [Bool.and_eq_true, Bool.and_eq_true] at hB
  obtain ⟨hB, hp1, hp2⟩ := hB
  have hlr := pick_map l rs hp1
  have hlk := pick_map l ks hp2
  generalize pick l rs = lr at *
  generalize pick l ks = lk at *
  simp only [ordB, Bool.and_eq_true, decide_eq_true_eq] at hB
  obtain ⟨⟨⟨⟨⟨hsel, hn⟩, hs⟩, hc⟩, hlen⟩, hr⟩ := hB
  have inv0 : HeadInv .any l.toArray (l.toArray.size - 1) (Array.replicate l.toArray.size false) :=
    ⟨by simp, fun j oj _ hl => (by rw [getD_replicate_false] at hl; cases hl), fun t _ ht => getD_in (by simpa using ht) (getD_replicate_false _ _)⟩
  have H := wpAnyC_reads (md := .any) hsel hs hc hn ks lk hlk rs lr _ a w.drew ⟨⟨w.drew, hS⟩, rfl⟩ hlr inv0 hr h
  rw [hlen] at H
  refine wp_region_noPanic ?_
  exact wp_region_any hm (wpAny_of_C _ _ _ _ H)
end
end Go.Proofs.YtbefkoljcacpcaaGreatDoor.B
