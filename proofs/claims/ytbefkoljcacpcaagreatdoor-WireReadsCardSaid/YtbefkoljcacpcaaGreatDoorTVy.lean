/- What LawWireReads, LawWireWrites, LawWireSpoilt lean on, part y of 25: the texts WiK, WiYa, WiQa, WiZ, WiZa. -/
import Derived.Test.YtbefkoljcacpcaaGreatDoorTVg
import Derived.Test.YtbefkoljcacpcaaGreatDoorTVi
import Derived.Test.YtbefkoljcacpcaaGreatDoorTVp
import Derived.Test.YtbefkoljcacpcaaGreatDoorTVt
import Derived.Test.YtbefkoljcacpcaaGreatDoorTVw
import Derived.Test.YtbefkoljcacpcaaGreatDoorTVx
set_option linter.unusedVariables false
set_option linter.unusedSimpArgs false
namespace Go.Proofs.YtbefkoljcacpcaaGreatDoor.Wi
open Go Go.RowKit Go.Proofs.YtbefkoljcacpcaaGreatDoorW.PrintWords Go.Proofs.YtbefkoljcacpcaaGreatDoor.B Go.Proofs.YtbefkoljcacpcaaGreatDoor.Tm
def RRdPost (s : ByteArray) (w : World) (ev : Ending) (w' : World) : Prop :=
  Below w.heap.size w w' ∧
  ((∃ v0 v1 v2 v3 v4 v5 A c l p, wright [v0, v1, v2, v3, v4, v5] l p = true ∧ s.data.toList = lbytes [v0, v1, v2, v3, v4, v5] l p ∧ ev = .returned (.tuple #[.agg (letCells v0 v1 v2 v3 v4 v5 A l.length c p), .int .i64 0]) ∧ Kd.C Kd.string w' A l.length l ∧ l.length ≤ c) ∨
   (NoLetter s ∧ ev = .returned (.tuple #[.agg (letCells 0 0 0 0 0 0 none 0 0 ⟨#[]⟩), .int .i64 5])))
set_option maxRecDepth 100000 in
set_option maxHeartbeats 16000000 in
theorem rwread_c (hRS : RSumSaid) (s : ByteArray) (w : World) (hs : s.size ≤ 65536) :
    Calls Tryz.prog 14 #[.string s] w (RRdPost s w) := by
  obtain ⟨R, hR⟩ : ∃ R, R = w.heap.size := ⟨_, rfl⟩
  obtain ⟨w1, hw1⟩ : ∃ w1, w1 = w.alloc (.cells #[.int .i64 0, .int .i64 0, .int .i64 0, .int .i64 0, .int .i64 0, .int .i64 0, .slice none 0 0, .string ⟨#[]⟩] 24) := ⟨_, rfl⟩
  have hs1 := Lib.hid (show w1.heap.size = R + 1 by rw [hw1, hR]; simp)
  have hr1 := Lib.hid (show w1.heap[R]? = some (.cells #[.int .i64 0, .int .i64 0, .int .i64 0, .int .i64 0, .int .i64 0, .int .i64 0, .slice none 0 0, .string ⟨#[]⟩] 24 (0, 0)) by rw [hw1, hR]; exact heap_alloc_at _ _)
  have hb1 := Lib.hid (show Below w.heap.size w w1 by rw [hw1]; exact (Below.refl _ _).alloc (Nat.le_refl _) _)
  have CR := Lib.hid (rread_c s w1 hs)
  go_enter Tryz.func14, Tryz.ntmps14
  go_upto_region 1 with fail
  rw [← hw1, ← hR]
  replace hw1 := Lib.hid hw1
  replace hR := Lib.hid hR
  go_wp2_with fail
  refine (CR.out).mono ?_
  rintro ev w2 ⟨f, c0, c1, c2, er, rfl, hFK, ⟨hsm, hers⟩, hspec, hb2⟩
  obtain ⟨fb, ft, fl⟩ := f
  have hFK2 := hFK
  unfold FK at hFK2
  obtain ⟨A2, k2, hcs, hk1, hk2, hks⟩ := hFK2
  simp only [List.cons.injEq, and_true] at hcs
  obtain ⟨rfl, rfl, rfl⟩ := hcs
  rw [F.small, Bool.and_eq_true, Bool.and_eq_true, decide_eq_true_eq, decide_eq_true_eq] at hsm
  obtain ⟨⟨hft, hfl⟩, hsml⟩ := hsm
  obtain ⟨n, hN⟩ : ∃ n, n = fl.length := ⟨_, rfl⟩
  rw [← hN] at hk1 hk2 hfl ⊢
  obtain ⟨Fb, hFb⟩ : ∃ Fb, Fb = w2.heap.size := ⟨_, rfl⟩
  obtain ⟨w3, hw3⟩ : ∃ w3, w3 = w2.alloc (.cells #[.bool fb, .string ⟨ft.toArray⟩, .slice A2 n k2] 52) := ⟨_, rfl⟩
  have hs3 := Lib.hid (show w3.heap.size = Fb + 1 by rw [hw3, hFb]; simp)
  have hf3 := Lib.hid (show w3.heap[Fb]? = some (.cells #[.bool fb, .string ⟨ft.toArray⟩, .slice A2 n k2] 52 (0, 0)) by rw [hw3, hFb]; exact heap_alloc_at _ _)
  have hb3 := Lib.hid (show Below w1.heap.size w1 w3 by rw [hw3]; exact hb2.alloc hb2.size _)
  have hr3 := Lib.hid ((hb3.out.block _ (heap_lt hr1.out)).trans hr1.out)
  have hB3 := Lib.hid (hb1.out.trans (hb3.out.mono hb1.out.size))
  have hks3 := Lib.hid (FKs.move (ok' := fun b => w1.heap.size ≤ b ∧ b < Fb) (w' := w3) (fun b hb => ⟨by rw [hFb]; exact hb, by rw [hw3]; exact heap_alloc_lt _ _ _ hb.2⟩) fl A2 0 hks)
  have hsp := Lib.hid (show ∀ vs l' p', vs.length = 6 → wright vs l' p' = true → s.data.toList = lbytes vs l' p' → er = 0 ∧ fl = lfull vs l' p' from fun vs l' p' h1 h2 h3 => by
    obtain ⟨e1, e2⟩ := hspec (lst (lfull vs l' p')) (lfull_right _ _ _) (by rw [lst_depth, lfull_depths]; omega) h3
    unfold lst at e2
    cases e2
    exact ⟨e1, rfl⟩)
  have hRF := Lib.hid (show R < Fb by have := hb2.size; have := hs1.out; omega)
  replace hN := Lib.hid hN
  have hsmlH := Lib.hid hsml
  have bad := Lib.hid (show ∀ W : World, Below w.heap.size w W → NoLetter s → RRdPost s w (.returned (.tuple #[.agg (letCells 0 0 0 0 0 0 none 0 0 ⟨#[]⟩), .int .i64 5])) ((((((((W.setCell ⟨R, 0, none⟩ (.int .i64 0)).setCell ⟨R, 1, none⟩ (.int .i64 0)).setCell ⟨R, 2, none⟩ (.int .i64 0)).setCell ⟨R, 3, none⟩ (.int .i64 0)).setCell ⟨R, 4, none⟩ (.int .i64 0)).setCell ⟨R, 5, none⟩ (.int .i64 0)).setCell ⟨R, 6, none⟩ (.slice none 0 0)).setCell ⟨R, 7, none⟩ (.string ⟨#[]⟩)) from fun W h1 h2 =>
    ⟨below_set8 h1 (by rw [hR.out]; exact Nat.le_refl _) _ _ _ _ _ _ _ _, .inr ⟨h2, rfl⟩⟩)
  obtain ⟨r0, r1, r2, r3, r4, r5, r6, r7, rsh, rfz⟩ := let_facts hr3.out
  obtain ⟨f0, f1, f2, _, _⟩ := blk3 hf3.out
  clear hFK hks hspec hb2 CR hft
  rcases hers with rfl | rfl
  · by_cases hn9 : n = 9
    · subst hn9
      have h9 : fl.length = 9 := hN.out.symm
      obtain ⟨b, o, rfl, hbF⟩ := FKs.base hks3.out (by omega)
      obtain ⟨pb, pt, pl, pA, pc, hp7, hpt, _, _, q0, q1, q2, _⟩ := FKs.at' hks3.out hsmlH.out 7 (by omega)
      obtain ⟨gb, gt, gl, gA, gc, hg6, _, hgl, hgsm, g0, g1, g2, hgc, hgks⟩ := FKs.at' hks3.out hsmlH.out 6 (by omega)
      have q0' : w3.cell? ⟨b, o + 21, none⟩ = some (.bool pb) := by rw [show o + 21 = o + 7 * 3 from by omega]; exact q0
      have q1' : w3.cell? ⟨b, o + 22, none⟩ = some (.string ⟨pt.toArray⟩) := by rw [show o + 22 = o + 7 * 3 + 1 from by omega]; exact q1
      have g0' : w3.cell? ⟨b, o + 18, none⟩ = some (.bool gb) := by rw [show o + 18 = o + 6 * 3 from by omega]; exact g0
      have g2' : w3.cell? ⟨b, o + 20, none⟩ = some (.slice gA gl.length gc) := by rw [show o + 20 = o + 6 * 3 + 2 from by omega]; exact g2
      have hbFH := Lib.hid hbF
      have hp7H := Lib.hid hp7
      have hptH := Lib.hid hpt
      have hg6H := Lib.hid hg6
      have hgsmH := Lib.hid hgsm
      have hgksH := Lib.hid hgks
      have hglH := Lib.hid hgl
      clear hp7 hpt hbF q0 q1 q2 g0 g1 g2 hg6 hgsm hgks
      by_cases hgp : gb = true ∧ pb = false
      · obtain ⟨rfl, rfl⟩ := hgp
        obtain ⟨p, hp⟩ : ∃ p : ByteArray, p = ⟨pt.toArray⟩ := ⟨_, rfl⟩
        rw [← hp] at q1'
        replace hp := Lib.hid hp
        obtain ⟨m6, hm6⟩ : ∃ m6, m6 = gl.length := ⟨_, rfl⟩
        rw [← hm6] at g2' hglH hgc
        replace hm6 := Lib.hid hm6
        have q1H := Lib.hid q1'
        have g2H := Lib.hid g2'
        have g0H := Lib.hid g0'
        have hRL := Lib.hid (heap_lt hr3.out)
        go_upto_region 2 with fail
        rw [← hw3, ← hFb]
        replace hw3 := Lib.hid hw3
        replace hFb := Lib.hid hFb
        go_upto_region 6 with fail
        clear q0' q1' g0' g2' r0 r1 r2 r3 r4 r5 r6 r7 rsh rfz f0 f1 f2
        go_loopg [7, 6] 6 (fun g' i x W => ∃ (k : Nat) (vs : List Int) (v : Value), g' = 6 - k ∧ k ≤ 6 ∧ i = .int .i64 k ∧ v = x ∧ vs.length = k ∧ IntRow w3.heap.size W v vs ∧ (∀ vs' l' p', vs'.length = 6 → wright vs' l' p' = true → fl = lfull vs' l' p' → vs = vs'.take k) ∧ Tch (fun _ => False) w3 W)
        case atStart => exact ⟨0, [], _, rfl, by omega, rfl, rfl, rfl, IntRow.nil _ _, fun _ _ _ _ _ _ => by rw [List.take_zero], Tch.refl _ _⟩
        case round =>
          obtain ⟨k, vs, v, hg', hk, rfl, rfl, hvk, hrow, hpre, hT⟩ := hrel
          subst hg'
          have hfr := Lib.hid (hT.heap hf3.out (fun e => e))
          have hrr := Lib.hid (hT.heap hr3.out (fun e => e))
          have hksr := Lib.hid (FKs.move (ok' := fun b => w1.heap.size ≤ b ∧ b < Fb) (w' := wr) (fun k hk => ⟨hk, hT.block k (by have := hs3.out; omega) (fun e => e)⟩) fl (some ⟨b, o, none⟩) 0 hks3.out)
          have hBr := Lib.hid (hB3.out.trans (hT.below (B := w.heap.size) hB3.out.size (fun k hk _ => hk.elim)))
          have hTH := Lib.hid hT
          have hrowH := Lib.hid hrow
          have hpreH := Lib.hid hpre
          have hvkH := Lib.hid hvk
          obtain ⟨f0, f1, f2, _, _⟩ := blk3 hfr.out
          by_cases hk6 : k < 6
          · have hki : (k : Int) < 6 := by omega
            have hk9 : (k : Int) < 9 := by omega
            obtain ⟨ib, it, il, iA, ic, hik, hit, hil, _, i0, i1, i2, hic, _⟩ := FKs.at' hksr.out hsmlH.out k (by omega)
            have hnum := Lib.hid (show ∀ vs' l' p', vs'.length = 6 → wright vs' l' p' = true → fl = lfull vs' l' p' → ib = false ∧ il.length = 0 ∧ it = Lib.itoa (vs'.getD k 0) ∧ 0 ≤ vs'.getD k 0 ∧ vs'.getD k 0 ≤ 2147483647 from fun vs' l' p' h1 h2 h3 => by
              rw [h3, lfull_num l' p' h1 k hk6] at hik
              unfold txt at hik
              cases hik
              exact ⟨rfl, rfl, rfl, wright_nums h2 k hk6⟩)
            obtain ⟨il0, hil0⟩ : ∃ il0, il0 = il.length := ⟨_, rfl⟩
            rw [← hil0] at i2 hil hic hnum
            replace hil0 := Lib.hid hil0
            clear hik hrow hpre hT hvk
            go_wp2_with fail
            refine (rnumber_c ib ⟨it.toArray⟩ iA il0 ic 0 2147483647 (by omega) (by omega) (by omega) wr).mono ?_
            rintro ev w6 ⟨x, er6, rfl, her6, _, hx6, hb6⟩
            have hgood := Lib.hid (show ∀ vs' l' p', vs'.length = 6 → wright vs' l' p' = true → fl = lfull vs' l' p' → er6 = 0 ∧ x = vs'.getD k 0 from fun vs' l' p' h1 h2 h3 => by
              obtain ⟨e1, e2, e3, e4, e5⟩ := hnum.out vs' l' p' h1 h2 h3
              exact hx6 _ e4 e5 e1 e2 (by rw [← e3]))
            have hb6H := Lib.hid hb6
            have hrow6 := Lib.hid (hrowH.out.keep (W' := w6) (fun b _ h2 => hb6.block b h2))
            have hr6 := Lib.hid ((hb6.block _ (heap_lt hrr.out)).trans hrr.out)
            have hsz6 := Lib.hid (Nat.le_trans hTH.out.size hb6.size)
            clear hb6 hx6 i0 i1 i2 f0 f1 f2
            rcases her6 with rfl | rfl
            · go_wp2_with (at_builtin; refine int_app (by rfl) _ _ _ (by rfl) Tryz.underlying70 (by rfl) k 1 (by rfl) hrow6.out hvkH.out (by omega) hsz6.out ?_; intro g7 cap7 w7 hrow7 hgrew7)
              have hrow7H := Lib.hid hrow7
              have hgrew7H := Lib.hid hgrew7
              clear hrow7 hgrew7
              go_wp2_with fail
              go_roundg (6 - (k + 1))
              case measure => omega
              case rel =>
                refine ⟨k + 1, vs ++ [x], _, rfl, by omega, by go_num, rfl, by rw [List.length_append, hvkH.out]; rfl, hrow7H.out, fun vs' l' p' h1 h2 h3 => ?_, hgrew7H.out.tch (hTH.out.trans (Tch.of_new hb6H.out)) (fun b hb => (hrowH.out.lt b hb).1)⟩
                rw [take_next _ _ (by omega), hpreH.out vs' l' p' h1 h2 h3, (hgood.out vs' l' p' h1 h2 h3).2]
            · obtain ⟨r0, r1, r2, r3, r4, r5, r6, r7, rsh, rfz⟩ := let_facts hr6.out
              have hno := Lib.hid (show NoLetter s from fun vs' l' p' h1 h2 h3 => by
                have e2 := (hgood.out vs' l' p' h1 h2 (hsp.out vs' l' p' h1 h2 h3).2).1
                cases e2)
              go_wp2_with fail
              (try simp only [Exit.inBlock, Exit.then])
              refine bodyPost_ret (Go.Proofs.YtbefkoljcacpcaaGreatDoor.Tm.results_cell_tmp rfl _ _ R 24 (letCells 0 0 0 0 0 0 none 0 0 ⟨#[]⟩) (0, 0) _ rfl (set8 hr6.out _ _ _ _ _ _ _ _) Tryz.underlying24 rfl (by kernel_rfl) _ rfl) rfl ?_
              exact bad.out _ (hBr.out.trans (hb6H.out.mono hBr.out.size)) hno.out
          · have hk6e : k = 6 := by omega
            subst hk6e
            have hki : ¬ ((6 : Nat) : Int) < 6 := by omega
            obtain ⟨g6, c6, hvv, hg6lo, hg6hi, hcell⟩ := hrow.cell (by omega)
            subst hvv
            rw [hvk] at hcell hrowH hrow ⊢
            obtain ⟨v0, v1, v2, v3, v4, v5, rfl⟩ : ∃ v0 v1 v2 v3 v4 v5, vs = [v0, v1, v2, v3, v4, v5] := by
              match vs, hvk with
              | [a, b, c, d, e, f], _ => exact ⟨a, b, c, d, e, f, rfl⟩
            have i0 : wr.cell? ⟨g6, 0, none⟩ = some (.int .i64 v0) := hcell 0 (by omega)
            have i1 : wr.cell? ⟨g6, 1, none⟩ = some (.int .i64 v1) := hcell 1 (by omega)
            have i2 : wr.cell? ⟨g6, 2, none⟩ = some (.int .i64 v2) := hcell 2 (by omega)
            have i3 : wr.cell? ⟨g6, 3, none⟩ = some (.int .i64 v3) := hcell 3 (by omega)
            have i4 : wr.cell? ⟨g6, 4, none⟩ = some (.int .i64 v4) := hcell 4 (by omega)
            have i5 : wr.cell? ⟨g6, 5, none⟩ = some (.int .i64 v5) := hcell 5 (by omega)
            have q1r : wr.cell? ⟨b, o + 22, none⟩ = some (.string p) := (World.cell?_of_block (a := ⟨b, o + 22, none⟩) (hT.block b (World.block_lt_of_cell? w3 _ q1H.out) (fun e => e))).trans q1H.out
            obtain ⟨S, hS⟩ : ∃ S : World → Prop, S = fun W => W.cell? ⟨g6, 0, none⟩ = some (.int .i64 v0) ∧ W.cell? ⟨g6, 1, none⟩ = some (.int .i64 v1) ∧ W.cell? ⟨g6, 2, none⟩ = some (.int .i64 v2) ∧ W.cell? ⟨g6, 3, none⟩ = some (.int .i64 v3) ∧ W.cell? ⟨g6, 4, none⟩ = some (.int .i64 v4) ∧ W.cell? ⟨g6, 5, none⟩ = some (.int .i64 v5) ∧ W.cell? ⟨Fb, 2, none⟩ = some (.slice (some ⟨b, o, none⟩) 9 k2) ∧ W.cell? ⟨b, o + 22, none⟩ = some (.string p) := ⟨_, rfl⟩
            have hSi : ∀ W, S W ↔ (W.cell? ⟨g6, 0, none⟩ = some (.int .i64 v0) ∧ W.cell? ⟨g6, 1, none⟩ = some (.int .i64 v1) ∧ W.cell? ⟨g6, 2, none⟩ = some (.int .i64 v2) ∧ W.cell? ⟨g6, 3, none⟩ = some (.int .i64 v3) ∧ W.cell? ⟨g6, 4, none⟩ = some (.int .i64 v4) ∧ W.cell? ⟨g6, 5, none⟩ = some (.int .i64 v5) ∧ W.cell? ⟨Fb, 2, none⟩ = some (.slice (some ⟨b, o, none⟩) 9 k2) ∧ W.cell? ⟨b, o + 22, none⟩ = some (.string p)) := fun W => by rw [hS]
            have hS0 : S wr.drew := (hSi _).2 ⟨i0, i1, i2, i3, i4, i5, f2, q1r⟩
            have s0 : ∀ X : InS S, X.val.cell? ⟨g6, 0, none⟩ = some (.int .i64 v0) := fun X => ((hSi X.val).1 X.mem).1
            have s1 : ∀ X : InS S, X.val.cell? ⟨g6, 1, none⟩ = some (.int .i64 v1) := fun X => ((hSi X.val).1 X.mem).2.1
            have s2 : ∀ X : InS S, X.val.cell? ⟨g6, 2, none⟩ = some (.int .i64 v2) := fun X => ((hSi X.val).1 X.mem).2.2.1
            have s3 : ∀ X : InS S, X.val.cell? ⟨g6, 3, none⟩ = some (.int .i64 v3) := fun X => ((hSi X.val).1 X.mem).2.2.2.1
            have s4 : ∀ X : InS S, X.val.cell? ⟨g6, 4, none⟩ = some (.int .i64 v4) := fun X => ((hSi X.val).1 X.mem).2.2.2.2.1
            have s5 : ∀ X : InS S, X.val.cell? ⟨g6, 5, none⟩ = some (.int .i64 v5) := fun X => ((hSi X.val).1 X.mem).2.2.2.2.2.1
            have s6 : ∀ X : InS S, X.val.cell? ⟨Fb, 2, none⟩ = some (.slice (some ⟨b, o, none⟩) 9 k2) := fun X => ((hSi X.val).1 X.mem).2.2.2.2.2.2.1
            have s7 : ∀ X : InS S, X.val.cell? ⟨b, o + 22, none⟩ = some (.string p) := fun X => ((hSi X.val).1 X.mem).2.2.2.2.2.2.2
            have hne : Nonempty (InS S) := ⟨⟨wr.drew, hS0⟩⟩
            have hS0H := Lib.hid hS0
            have hSiH := Lib.hid hSi
            clear hS hSi hS0 hcell i0 i1 i2 i3 i4 i5 hrow hpre hT f0 f1 f2 q1r
            obtain ⟨L, hL⟩ : ∃ L, L = wr.heap.size := ⟨_, rfl⟩
            obtain ⟨w4, hw4⟩ : ∃ w4, w4 = wr.alloc (.cells #[.int .i64 0, .int .i64 0, .int .i64 0, .int .i64 0, .int .i64 0, .int .i64 0, .slice none 0 0, .string ⟨#[]⟩] 24) := ⟨_, rfl⟩
            have hs4 := Lib.hid (show w4.heap.size = L + 1 by rw [hw4, hL]; simp)
            have hl4 := Lib.hid (show w4.drew.heap[L]? = some (.cells #[.int .i64 0, .int .i64 0, .int .i64 0, .int .i64 0, .int .i64 0, .int .i64 0, .slice none 0 0, .string ⟨#[]⟩] 24 (0, 0)) by rw [hw4, hL]; exact heap_alloc_at _ _)
            have hb4 := Lib.hid (show Below wr.heap.size wr w4.drew by rw [hw4]; exact ((Below.refl _ _).alloc (Nat.le_refl _) _).drew)
            have hFL := Lib.hid (show Fb < L by rw [hL]; exact heap_lt hfr.out)
            go_upto_region 12 with fail
            refine wp_region_mix S [0, 1, 2, 3, 4, 5, 6, 7, 8, 9, 10, 11, 12, 13, 14, 15, 16, 17, 18, 19, 20, 21, 22] [.mem [0, 1, 2, 3, 4, 5, 6, 7, 8, 9, 10, 11, 12, 13, 14, 15, 16, 17, 18, 19, 20, 21, 22], .pure [23], .keep 24, .last 25] (by kernel_rfl) (by kernel_rfl) hS0H.out ?_
            simp only [pick, List.getD_cons_zero, List.getD_cons_succ, wpMix]
            repeat (go_big_quiet_step (fail))
            refine wpQuiet_nil ?_
            repeat (go_big_quiet_step (fail))
            refine wpQuiet_nil ?_
            obtain ⟨d0, d1, d2, d3, d4, d5, d6, d7⟩ := (hSiH.out _).1 hS0H.out
            go_wp2_with fail
            refine ⟨(hSiH.out _).2 ⟨cell_alloc d0 _, cell_alloc d1 _, cell_alloc d2 _, cell_alloc d3 _, cell_alloc d4 _, cell_alloc d5 _, cell_alloc d6 _, cell_alloc d7 _⟩, ?_⟩
            have e4 : (wr.alloc (.cells #[.int .i64 0, .int .i64 0, .int .i64 0, .int .i64 0, .int .i64 0, .int .i64 0, .slice none 0 0, .string ⟨#[]⟩] 24)).drew = w4.drew := by rw [hw4]
            rw [← hw4, ← hL]
            clear e4
            replace hw4 := Lib.hid hw4
            replace hL := Lib.hid hL
            clear d0 d1 d2 d3 d4 d5 d6 d7 s0 s1 s2 s3 s4 s5 s6 s7
            obtain ⟨wd, hwd⟩ : ∃ wd, wd = w4.drew := ⟨_, rfl⟩
            rw [← hwd] at hl4 hb4 ⊢
            have hsd := Lib.hid (show wd.heap.size = L + 1 by rw [hwd]; exact hs4.out)
            replace hwd := Lib.hid hwd
            have hBd := Lib.hid (hBr.out.trans (hb4.out.mono hBr.out.size))
            have hfd := Lib.hid ((hb4.out.block _ (heap_lt hfr.out)).trans hfr.out)
            have hrd := Lib.hid ((hb4.out.block _ (heap_lt hrr.out)).trans hrr.out)
            have hkeep := Lib.hid (show ∀ k, k < Fb → wd.heap[k]? = w3.heap[k]? from fun k hk => (hb4.out.block k (by have := heap_lt hfr.out; omega)).trans (hTH.out.block k (by have := hs3.out; omega) (fun e => e)))
            obtain ⟨y0, y1, y2, y3, y4, y5, y6, y7, ysh, yfz⟩ := let_facts hl4.out
            go_wp2_with fail
            simp only [stepPost]
            have hl5 := Lib.hid (set8 hl4.out (.int .i64 v0) (.int .i64 v1) (.int .i64 v2) (.int .i64 v3) (.int .i64 v4) (.int .i64 v5) (.slice none 0 0) (.string p))
            have hT5 := Lib.hid ((((((((((Tch.refl (fun b => b = L) wd).setCell ⟨L, 0, none⟩ (fun _ => rfl) (.int .i64 v0)).setCell ⟨L, 1, none⟩ (fun _ => rfl) (.int .i64 v1)).setCell ⟨L, 2, none⟩ (fun _ => rfl) (.int .i64 v2)).setCell ⟨L, 3, none⟩ (fun _ => rfl) (.int .i64 v3)).setCell ⟨L, 4, none⟩ (fun _ => rfl) (.int .i64 v4)).setCell ⟨L, 5, none⟩ (fun _ => rfl) (.int .i64 v5)).setCell ⟨L, 6, none⟩ (fun _ => rfl) (.slice none 0 0)).setCell ⟨L, 7, none⟩ (fun _ => rfl) (.string p)))
            clear y0 y1 y2 y3 y4 y5 y6 y7 ysh yfz
            go_wp2_with fail
            go_loopg [11] m6 (fun g' i W => ∃ (j : Nat) (v : Value), g' = m6 - j ∧ j ≤ m6 ∧ i = .int .i64 j ∧ W.heap[L]? = some (.cells #[.int .i64 v0, .int .i64 v1, .int .i64 v2, .int .i64 v3, .int .i64 v4, .int .i64 v5, v, .string p] 24 (0, 0)) ∧ StrRow wd.heap.size W v (textsOf (gl.take j)) ∧ Tch (fun b => b = L) wd W)
            case atStart => exact ⟨0, .slice none 0 0, rfl, by omega, rfl, hl5.out, StrRow.nil _ _, hT5.out⟩
            case round =>
              obtain ⟨j, v, hg', hj, rfl, hl, hrw, hT⟩ := hrel
              subst hg'
              have hl2 := Lib.hid hl
              have hrw2 := Lib.hid hrw
              have hT2 := Lib.hid hT
              have hfr2 := hT.heap hfd.out (show ¬ Fb = L by have := hFL.out; omega)
              have hrr2 := Lib.hid (hT.heap hrd.out (show ¬ R = L by have := hRF.out; have := hFL.out; omega))
              have hBr2 := Lib.hid (hBd.out.trans (hT.below (B := w.heap.size) hBd.out.size (fun k hk _ => by subst hk; have := hRF.out; have := hFL.out; have := hR.out; omega)))
              have hblk : ∀ k, k < Fb → wr.heap[k]? = w3.heap[k]? := fun k hk => (hT.block k (by have := hsd.out; have := hFL.out; omega) (by have := hFL.out; omega)).trans (hkeep.out k hk)
              have hbF := hbFH.out.2
              have g2r : wr.cell? ⟨b, o + 20, none⟩ = some (.slice gA m6 gc) := (World.cell?_of_block (a := ⟨b, o + 20, none⟩) (hblk b hbF)).trans g2H.out
              have f2r : wr.cell? ⟨Fb, 2, none⟩ = some (.slice (some ⟨b, o, none⟩) 9 k2) := by rw [cell_of hfr2]; rfl
              by_cases hjm : j < m6
              · have hji : (j : Int) < (m6 : Int) := by omega
                have hjl : j < gl.length := by rw [← hm6.out]; exact hjm
                obtain ⟨b6, o6, rfl, hb6F⟩ := FKs.base hgksH.out (by omega)
                have hgr := FKs.move (ok' := fun b => w1.heap.size ≤ b ∧ b < Fb) (w' := wr) (fun k hk => ⟨hk, hblk k hk.2⟩) gl (some ⟨b6, o6, none⟩) 0 hgksH.out
                obtain ⟨jb, jt, jl, jA, jc, hjk, hjt, hjll, _, j0, j1, j2, _, _⟩ := FKs.at' hgr hgsmH.out j hjl
                cases jb with
                | true =>
                  have hno := Lib.hid (show NoLetter s from fun vs' l' p' h1 h2 h3 => by
                    have e1 := (hsp.out vs' l' p' h1 h2 h3).2
                    have e6 := hg6H.out
                    rw [e1, lfull_have l' p' h1] at e6
                    unfold lst at e6
                    cases e6
                    unfold lhave at hjk
                    rw [List.getElem?_map] at hjk
                    cases hq : l'[j]? with
                    | none => rw [hq] at hjk; cases hjk
                    | some q => rw [hq] at hjk; unfold txt at hjk; cases hjk)
                  obtain ⟨r0, r1, r2, r3, r4, r5, r6, r7, rsh, rfz⟩ := let_facts hrr2.out
                  clear hgr hjk hl hrw hT hblk
                  go_wp2_with fail
                  (try simp only [Exit.inBlock, Exit.then])
                  refine bodyPost_ret (Go.Proofs.YtbefkoljcacpcaaGreatDoor.Tm.results_cell_tmp rfl _ _ R 24 (letCells 0 0 0 0 0 0 none 0 0 ⟨#[]⟩) (0, 0) _ rfl (set8 hrr2.out _ _ _ _ _ _ _ _) Tryz.underlying24 rfl (by kernel_rfl) _ rfl) rfl ?_
                  exact bad.out _ hBr2.out hno.out
                | false =>
                  have hnext := Lib.hid (textsOf_take gl j false jt jl hjk)
                  have hlen := Lib.hid (show (textsOf (gl.take j)).length = j by rw [textsOf_len, List.length_take]; omega)
                  obtain ⟨x, hx⟩ : ∃ x : ByteArray, x = ⟨jt.toArray⟩ := ⟨_, rfl⟩
                  rw [← hx] at j1 hnext
                  replace hx := Lib.hid hx
                  have z0 : wr.cell? ⟨L, 6, none⟩ = some v := by rw [cell_of hl]; rfl
                  obtain ⟨S, hS⟩ : ∃ S : World → Prop, S = fun W => W.cell? ⟨L, 6, none⟩ = some v ∧ W.cell? ⟨Fb, 2, none⟩ = some (.slice (some ⟨b, o, none⟩) 9 k2) ∧ W.cell? ⟨b, o + 20, none⟩ = some (.slice (some ⟨b6, o6, none⟩) m6 gc) ∧ W.cell? ⟨b6, o6 + j * 3 + 1, none⟩ = some (.string x) := ⟨_, rfl⟩
                  have hSi : ∀ W, S W ↔ (W.cell? ⟨L, 6, none⟩ = some v ∧ W.cell? ⟨Fb, 2, none⟩ = some (.slice (some ⟨b, o, none⟩) 9 k2) ∧ W.cell? ⟨b, o + 20, none⟩ = some (.slice (some ⟨b6, o6, none⟩) m6 gc) ∧ W.cell? ⟨b6, o6 + j * 3 + 1, none⟩ = some (.string x)) := fun W => by rw [hS]
                  have hS0 : S wr.drew := (hSi _).2 ⟨z0, f2r, g2r, j1⟩
                  have s0 : ∀ X : InS S, X.val.cell? ⟨L, 6, none⟩ = some v := fun X => ((hSi X.val).1 X.mem).1
                  have s1 : ∀ X : InS S, X.val.cell? ⟨Fb, 2, none⟩ = some (.slice (some ⟨b, o, none⟩) 9 k2) := fun X => ((hSi X.val).1 X.mem).2.1
                  have s2 : ∀ X : InS S, X.val.cell? ⟨b, o + 20, none⟩ = some (.slice (some ⟨b6, o6, none⟩) m6 gc) := fun X => ((hSi X.val).1 X.mem).2.2.1
                  have s3 : ∀ X : InS S, X.val.cell? ⟨b6, o6 + j * 3 + 1, none⟩ = some (.string x) := fun X => ((hSi X.val).1 X.mem).2.2.2
                  have hne : Nonempty (InS S) := ⟨⟨wr.drew, hS0⟩⟩
                  have hS0H := Lib.hid hS0
                  have hSiH := Lib.hid hSi
                  have hbase := Lib.hid (show wd.heap.size ≤ wr.heap.size from hT.size)
                  have hlow := Lib.hid (show ∀ k, k < wd.heap.size → some k ≠ v.ownBlock from fun k hk e => by have := (hrw.lt _ e.symm).1; omega)
                  have hrD := Lib.hid (show StrRow wd.heap.size wr.drew v (textsOf (gl.take j)) from hrw)
                  have hgl' := hglH.out
                  clear hS hSi hS0 hgr hjk hl hrw hT hblk z0
                  go_upto_region 18 with fail
                  refine wp_region_mix S [0, 1, 2, 3, 4, 5, 6, 7, 8, 9, 10] [.mem [0, 1, 2, 3, 4, 5, 6, 7, 8, 9, 10], .keep 11, .keep 12, .pure [13], .last 14] (by kernel_rfl) (by kernel_rfl) hS0H.out ?_
                  simp only [pick, List.getD_cons_zero, List.getD_cons_succ, wpMix]
                  repeat (go_big_quiet_step (fail))
                  refine wpQuiet_nil ?_
                  obtain ⟨d0, d1, d2, d3⟩ := (hSiH.out _).1 hS0H.out
                  go_wp2_with fail
                  refine ⟨(hSiH.out _).2 ⟨cell_alloc d0 _, cell_alloc d1 _, cell_alloc d2 _, cell_alloc d3 _⟩, ?_⟩
                  go_wp2_with (at_builtin; refine str_app (by rfl) _ _ _ (by rfl) Tryz.underlying22 (by rfl) j 1 (by rfl) hrD.out hlen.out (by omega) hbase.out ?_; intro g7 cap7 w7 hrow7 hgrew7)
                  have hsd' := hsd.out
                  have hFL' := hFL.out
                  have u0 := hgrew7.cell d0 (hlow.out L (by omega))
                  have u1 := hgrew7.cell d1 (hlow.out Fb (by omega))
                  have u2 := hgrew7.cell d2 (hlow.out b (by omega))
                  have u3 := hgrew7.cell d3 (hlow.out b6 (by omega))
                  refine ⟨(hSiH.out _).2 ⟨u0, u1, u2, u3⟩, ?_⟩
                  have hl7 := Lib.hid (hgrew7.heap (w := wr.drew) hl2.out (hlow.out L (by omega)))
                  have z7 : w7.frozen? ⟨L, 6, none⟩ = false := fr_of hl7.out 6
                  have hrow7H := Lib.hid hrow7
                  have hgrew7H := Lib.hid hgrew7
                  clear hrow7 hgrew7 d0 d1 d2 d3 u1 u2 u3 s0 s1 s2 s3
                  repeat (go_big_quiet_step (fail))
                  refine wpQuiet_nil ?_
                  go_wp2_with fail
                  simp only [stepPost]
                  go_wp2_with fail
                  go_roundg (m6 - (j + 1))
                  case measure => omega
                  case rel =>
                    refine ⟨j + 1, .slice (some ⟨g7, 0, none⟩) (j + 1) cap7, rfl, by omega, by go_num, heap_set _ _ _ _ _ _ _ hl7.out, ?_, (hgrew7H.out.tch (hT2.out.trans (Tch.of_new ((Below.refl _ wr).drew))) (fun b hb => (hrw2.out.lt b hb).1)).setCell ⟨L, 6, none⟩ (fun _ => rfl) _⟩
                    rw [hnext.out]
                    exact hrow7H.out.keep (fun b h1 h2 => heap_set_ne _ _ _ _ (by show b ≠ L; have := hsd.out; omega))
              · have hjm' : j = m6 := by omega
                subst hjm'
                have hji : ¬ (j : Int) < (j : Int) := by omega
                have ht : gl.take j = gl := List.take_of_length_le (by rw [← hm6.out]; exact Nat.le_refl _)
                rw [ht] at hrw hrw2
                have hfin := Lib.hid (show ∀ vs' l' p', vs'.length = 6 → wright vs' l' p' = true → s.data.toList = lbytes vs' l' p' → [v0, v1, v2, v3, v4, v5] = vs' ∧ textsOf gl = l' ∧ p = p' from fun vs' l' p' h1 h2 h3 => by
                  have e1 := (hsp.out vs' l' p' h1 h2 h3).2
                  refine ⟨?_, ?_, ?_⟩
                  · rw [hpreH.out vs' l' p' h1 h2 e1, List.take_of_length_le (by omega)]
                  · have e6 := hg6H.out
                    rw [e1, lfull_have l' p' h1] at e6
                    unfold lst at e6
                    cases e6
                    exact textsOf_lhave l'
                  · have e7 := hp7H.out
                    rw [e1, lfull_patch l' p' h1] at e7
                    unfold txt at e7
                    cases e7
                    rw [hp.out])
                obtain ⟨A, c, hv, hc, hK, _⟩ := hrw.read
                subst hv
                have CW := Lib.hid (rwwrite_c hRS v0 v1 v2 v3 v4 v5 A c (textsOf gl) p wr hK hc (by rw [textsOf_len, ← hm6.out]; have := hglH.out; omega) (fun x hx => by have := textsOf_small hgsmH.out x hx; omega))
                have hcH := Lib.hid hc
                obtain ⟨N, hNt⟩ : ∃ N, N = (textsOf gl).length := ⟨_, rfl⟩
                unfold letCells at CW
                rw [← hNt] at CW hl2 hl hrw hrw2
                have hNH := Lib.hid hNt
                clear hc hK hNt hT hblk ht
                obtain ⟨c0, c1, c2, c3, c4, c5, c6', c7, _, _⟩ := let_facts hl2.out
                clear hl hrw
                go_wp2_with fail
                refine (CW.out).mono ?_
                rintro ev w7 ⟨rfl, hb7⟩
                have hb7H := Lib.hid (hBr2.out.trans (hb7.mono hBr2.out.size))
                have hl7 := Lib.hid ((hb7.block _ (heap_lt hl2.out)).trans hl2.out)
                have hr7 := Lib.hid ((hb7.block _ (heap_lt hrr2.out)).trans hrr2.out)
                have hrw7 := Lib.hid (hrw2.out.keep (W' := w7) (fun b _ h2 => hb7.block b h2))
                clear hb7 c0 c1 c2 c3 c4 c5 c6' c7
                obtain ⟨c0, c1, c2, c3, c4, c5, c6', c7, _, _⟩ := let_facts hl7.out
                obtain ⟨r0, r1, r2, r3, r4, r5, r6, r7, rsh, rfz⟩ := let_facts hr7.out
                cases hr : wright [v0, v1, v2, v3, v4, v5] (textsOf gl) p with
                | false =>
                  have hno := Lib.hid (show NoLetter s from fun vs l' p' h1 h2 h3 => by
                    obtain ⟨rfl, rfl, rfl⟩ := hfin.out vs l' p' h1 h2 h3
                    rw [h2] at hr
                    cases hr)
                  clear hr
                  simp only [Bool.false_eq_true, if_false]
                  go_wp2_with fail
                  (try simp only [Exit.inBlock, Exit.then])
                  refine bodyPost_ret (Go.Proofs.YtbefkoljcacpcaaGreatDoor.Tm.results_cell_tmp rfl _ _ R 24 (letCells 0 0 0 0 0 0 none 0 0 ⟨#[]⟩) (0, 0) _ rfl (set8 hr7.out _ _ _ _ _ _ _ _) Tryz.underlying24 rfl (by kernel_rfl) _ rfl) rfl ?_
                  exact bad.out _ hb7H.out hno.out
                | true =>
                  have hrH := Lib.hid hr
                  clear hr
                  rw [if_pos rfl]
                  obtain ⟨t, ht⟩ : ∃ t : ByteArray, t = ⟨(lbytes [v0, v1, v2, v3, v4, v5] (textsOf gl) p).toArray⟩ := ⟨_, rfl⟩
                  rw [← ht]
                  replace ht := Lib.hid ht
                  by_cases hts : t = s
                  · subst hts
                    go_wp2_with fail
                    (try simp only [Exit.inBlock, Exit.then])
                    refine bodyPost_ret (Go.Proofs.YtbefkoljcacpcaaGreatDoor.Tm.results_cell_tmp rfl _ _ R 24 (letCells v0 v1 v2 v3 v4 v5 A N c p) (0, 0) _ rfl (set8 hr7.out _ _ _ _ _ _ _ _) Tryz.underlying24 rfl (by kernel_rfl) _ rfl) rfl ?_
                    rw [hNH.out] at hrw7 ⊢
                    obtain ⟨A', c', hv, _, hK, _⟩ := (hrw7.out.keep (fun b h1 h2 => set8_ne (show b ≠ R by have := hRF.out; have := hFL.out; have := hsd.out; omega) (.int .i64 v0) (.int .i64 v1) (.int .i64 v2) (.int .i64 v3) (.int .i64 v4) (.int .i64 v5) (.slice A (textsOf gl).length c) (.string p))).read
                    obtain ⟨rfl, rfl⟩ : A = A' ∧ c = c' := by
                      injection hv with e1 _ e2
                      exact ⟨e1, e2⟩
                    exact ⟨below_set8 hb7H.out (by rw [hR.out]; exact Nat.le_refl _) _ _ _ _ _ _ _ _, .inl ⟨v0, v1, v2, v3, v4, v5, A, c, textsOf gl, p, hrH.out, by rw [ht.out], rfl, hK, hcH.out⟩⟩
                  · have hno := Lib.hid (show NoLetter s from fun vs l' p' h1 h2 h3 => by
                      obtain ⟨rfl, rfl, rfl⟩ := hfin.out vs l' p' h1 h2 h3
                      refine hts ?_
                      rw [ht.out, ← h3])
                    have ht1 : ¬ t.toList = s.toList := fun e => hts (by rw [ByteArray.toList_eq, ByteArray.toList_eq] at e; exact ByteArray.ext (Array.ext' e))
                    have ht2 : (t.toList == s.toList) = false := by rw [beq_eq_false_iff_ne]; exact ht1
                    go_wp2_with fail
                    (try simp only [Exit.inBlock, Exit.then])
                    refine bodyPost_ret (Go.Proofs.YtbefkoljcacpcaaGreatDoor.Tm.results_cell_tmp rfl _ _ R 24 (letCells 0 0 0 0 0 0 none 0 0 ⟨#[]⟩) (0, 0) _ rfl (set8 hr7.out _ _ _ _ _ _ _ _) Tryz.underlying24 rfl (by kernel_rfl) _ rfl) rfl ?_
                    exact bad.out _ hb7H.out hno.out
      · have hno := Lib.hid (show NoLetter s from fun vs l' p' h1 h2 h3 => by
          have e1 := (hsp.out vs l' p' h1 h2 h3).2
          have e6 := hg6H.out
          have e7 := hp7H.out
          rw [e1, lfull_have l' p' h1] at e6
          rw [e1, lfull_patch l' p' h1] at e7
          unfold lst at e6
          unfold txt at e7
          cases e6
          cases e7
          exact hgp ⟨rfl, rfl⟩)
        go_upto_region 2 with fail
        rw [← hw3, ← hFb]
        replace hw3 := Lib.hid hw3
        replace hFb := Lib.hid hFb
        cases gb <;> cases pb
        all_goals first | exact absurd ⟨rfl, rfl⟩ hgp | skip
        all_goals clear hgp
        all_goals go_wp2_with fail
        all_goals (try simp only [Exit.inBlock, Exit.then])
        all_goals (refine bodyPost_ret (Go.Proofs.YtbefkoljcacpcaaGreatDoor.Tm.results_cell_tmp rfl _ _ R 24 (letCells 0 0 0 0 0 0 none 0 0 ⟨#[]⟩) (0, 0) _ rfl (set8 hr3.out _ _ _ _ _ _ _ _) Tryz.underlying24 rfl (by kernel_rfl) _ rfl) rfl ?_)
        all_goals exact bad.out _ hB3.out hno.out
    · have hn9i : ¬ (n : Int) = 9 := by omega
      have hno := Lib.hid (show NoLetter s from fun vs l' p' h1 h2 h3 => by
        have e2 := (hsp.out vs l' p' h1 h2 h3).2
        have := hN.out
        rw [e2, lfull_length _ _ h1] at this
        exact hn9 this)
      go_upto_region 2 with fail
      rw [← hw3, ← hFb]
      replace hw3 := Lib.hid hw3
      replace hFb := Lib.hid hFb
      go_wp2_with fail
      (try simp only [Exit.inBlock, Exit.then])
      refine bodyPost_ret (Go.Proofs.YtbefkoljcacpcaaGreatDoor.Tm.results_cell_tmp rfl _ _ R 24 (letCells 0 0 0 0 0 0 none 0 0 ⟨#[]⟩) (0, 0) _ rfl (set8 hr3.out _ _ _ _ _ _ _ _) Tryz.underlying24 rfl (by kernel_rfl) _ rfl) rfl ?_
      exact bad.out _ hB3.out hno.out
  · have hno := Lib.hid (show NoLetter s from fun vs l' p' h1 h2 h3 => by
      have := (hsp.out vs l' p' h1 h2 h3).1
      cases this)
    go_upto_region 2 with fail
    rw [← hw3, ← hFb]
    replace hw3 := Lib.hid hw3
    replace hFb := Lib.hid hFb
    go_wp2_with fail
    (try simp only [Exit.inBlock, Exit.then])
    refine bodyPost_ret (Go.Proofs.YtbefkoljcacpcaaGreatDoor.Tm.results_cell_tmp rfl _ _ R 24 (letCells 0 0 0 0 0 0 none 0 0 ⟨#[]⟩) (0, 0) _ rfl (set8 hr3.out _ _ _ _ _ _ _ _) Tryz.underlying24 rfl (by kernel_rfl) _ rfl) rfl ?_
    exact bad.out _ hB3.out hno.out
end Go.Proofs.YtbefkoljcacpcaaGreatDoor.Wi
set_option linter.unusedVariables false
set_option linter.unusedSimpArgs false
namespace Go.Proofs.YtbefkoljcacpcaaGreatDoor.Wi
open Go Go.RowKit Go.WideShapes Go.ChangeShapes Go.Proofs.YtbefkoljcacpcaaGreatDoor.B Go.Proofs.YtbefkoljcacpcaaGreatDoor.Tm
set_option maxRecDepth 100000 in
theorem writes17_any {H : Type} {enc : TypeId × Value → H} (v : Value) {d : DataW H} {ps : List MemPlace} (w : World) {base : Nat} (hL : Lw w) (hE : Err.ErrT w)
    (hv : Value.okWide Tryz.prog w .any base 24 v) (h : DataW.Trod enc Tryz.prog w 0 (fun _ => true) true 24 v d ps) (hw : ∀ n ∈ d.weights Tryz.prog 24, n ≤ reachBytes) :
    Calls Tryz.prog 4 #[v] w fun e w' => e = .returned (.bool true) ∧ Below w.heap.size w w' := by
  obtain ⟨v0, v1, v2, v3, v4, v5, A, c, l, p, rfl, hC, hc, hs⟩ := letter_open v w hv h hw
  exact writes17_walk (fun s w h => Ref.RSum_any s h w) v0 v1 v2 v3 v4 v5 A c l p w hL hE hC hc hs
end Go.Proofs.YtbefkoljcacpcaaGreatDoor.Wi
set_option linter.unusedVariables false
set_option linter.unusedSimpArgs false
namespace Go.Proofs.YtbefkoljcacpcaaGreatDoor.Wi
open Go Go.RowKit Go.WideShapes Go.ChangeShapes Go.Proofs.YtbefkoljcacpcaaGreatDoor.B Go.Proofs.YtbefkoljcacpcaaGreatDoor.Tm
theorem byteInt (x : Int) (h : (Lit.int .u8 x).wf = true) : ∃ c : UInt8, x = (c.toNat : Int) := by
  have hb : 0 ≤ x ∧ x ≤ 255 := by simpa [Lit.wf, IntKind.min, IntKind.max, IntKind.signed, IntKind.bits] using h
  refine ⟨UInt8.ofNat x.toNat, ?_⟩
  rw [UInt8.toNat_ofNat']
  omega
set_option maxRecDepth 100000 in
theorem spoilt17_any {H : Type} {enc : TypeId × Value → H} (v : Value) (a y : Int) {d : DataW H} {ps : List MemPlace} (w : World) {base : Nat} (hL : Lw w)
    (hv : Value.okWide Tryz.prog w .any base 24 v) (h : DataW.Trod enc Tryz.prog w 0 (fun _ => true) true 24 v d ps) (hw : ∀ n ∈ d.weights Tryz.prog 24, n ≤ reachBytes) (hy : (Lit.int .u8 y).wf = true) :
    Calls Tryz.prog 3 #[v, .int .i64 a, .int .u8 y] w fun e w' => e = .returned (.bool true) ∧ Below w.heap.size w w' := by
  obtain ⟨v0, v1, v2, v3, v4, v5, A, c, l, p, rfl, hC, hc, hs⟩ := letter_open v w hv h hw
  obtain ⟨y, rfl⟩ := byteInt y hy
  exact spoilt17_walk (fun s w h => Ref.RSum_any s h w) v0 v1 v2 v3 v4 v5 A c l p a y w hL hC hc hs
end Go.Proofs.YtbefkoljcacpcaaGreatDoor.Wi
set_option linter.unusedVariables false
set_option linter.unusedSimpArgs false
namespace Go.Proofs.YtbefkoljcacpcaaGreatDoor.Wi
open Go Go.RowKit Go.Proofs.YtbefkoljcacpcaaGreatDoorW.PrintWords Go.Proofs.YtbefkoljcacpcaaGreatDoor.B Go.Proofs.YtbefkoljcacpcaaGreatDoor.Tm
open Go.Proofs.YtbefkoljcacpcaaGreatDoor.Err (ErrT Code_nil Code_fault is_fault)
theorem rread_back {v0 v1 v2 v3 v4 v5 : Int} {l : List ByteArray} {p s : ByteArray} {w w' : World} {ev : Ending} (hr : wright [v0, v1, v2, v3, v4, v5] l p = true) (hs : s.data.toList = lbytes [v0, v1, v2, v3, v4, v5] l p) (h : RRdPost s w ev w') :
    Below w.heap.size w w' ∧ ∃ A c, ev = .returned (.tuple #[.agg (letCells v0 v1 v2 v3 v4 v5 A l.length c p), .int .i64 0]) ∧ Kd.C Kd.string w' A l.length l ∧ l.length ≤ c := by
  obtain ⟨hb, h⟩ := h
  refine ⟨hb, ?_⟩
  rcases h with ⟨u0, u1, u2, u3, u4, u5, A, c, m, q, h1, h2, h3, h4, h5⟩ | ⟨hno, _⟩
  · obtain ⟨e1, rfl, rfl⟩ := lbytes_inj rfl rfl hr h1 (hs.symm.trans h2)
    simp only [List.cons.injEq, and_true] at e1
    obtain ⟨rfl, rfl, rfl, rfl, rfl, rfl⟩ := e1
    exact ⟨A, c, h3, h4, h5⟩
  · exact (hno _ _ _ rfl hr hs).elim
theorem rread_none {s : ByteArray} {w w' : World} {ev : Ending} (hno : NoLetter s) (h : RRdPost s w ev w') :
    Below w.heap.size w w' ∧ ev = .returned (.tuple #[.agg (letCells 0 0 0 0 0 0 none 0 0 ⟨#[]⟩), .int .i64 5]) := by
  obtain ⟨hb, h⟩ := h
  refine ⟨hb, ?_⟩
  rcases h with ⟨u0, u1, u2, u3, u4, u5, A, c, m, q, h1, h2, h3, h4, h5⟩ | ⟨_, h⟩
  · exact (hno _ _ _ rfl h1 h2).elim
  · exact h
theorem asP_any (b : Nat) (t : Addr) (old : Value) (w : World) (hg : ErrT w) (ht0 : w.cell? t = some old) (hf0 : w.frozen? t = false) :
    Calls Tryz.prog 15 #[.iface 42 (.pointer (some ⟨b, 0, none⟩)), .iface 44 (.pointer (some t))] w fun ev w' => ev = .returned (.bool true) ∧ w'.cell? t = some (.pointer (some ⟨b, 0, none⟩)) ∧ Below t.block w w' := by
  have htl := World.block_lt_of_cell? w _ ht0
  refine (ErrP.as_hit ⟨b, 0, none⟩ t old w hg ht0 hf0).mono ?_
  rintro ev w' ⟨rfl, rfl⟩
  refine ⟨rfl, ?_, ?_⟩
  · refine World.cell?_setCell_same _ t _ (u := old) ?_
    rw [World.cell?_alloc_lt _ _ t (by simp; omega), World.cell?_alloc_lt _ _ t (by simp; omega), World.cell?_alloc_lt _ _ t (by simp; omega), World.cell?_alloc_lt _ _ t htl]
    exact ht0
  · exact (((((Below.refl _ _).alloc (Nat.le_of_lt htl) _).alloc (by simp; omega) _).alloc (by simp; omega) _).alloc (by simp; omega) _).setCell (Nat.le_refl _) _
set_option maxRecDepth 100000 in
set_option maxHeartbeats 8000000 in
theorem reads17_walk (hRS : RSumSaid) (s : ByteArray) (w : World) (hL : Lw w) (hE : ErrT w) :
    Calls Tryz.prog 5 #[.string s] w fun ev w' => ev = .returned (.bool true) ∧ Below w.heap.size w w' := by
  have C0 := Lib.hid (awake17_c w hL)
  have hLH := Lib.hid hL
  have hEH := Lib.hid hE
  clear hL hE
  by_cases hs : (4000 : Int) < (s.size : Int)
  · go_enter Tryz.func5, Tryz.ntmps5
    go_wp2_with fail
    refine (C0.out).mono ?_
    rintro ev w1 ⟨rfl, hb⟩
    replace hb := Lib.hid hb
    go_wp2_with fail
    go_ret
    exact ⟨rfl, hb.out⟩
  have hsz : s.size ≤ 4000 := by omega
  have CR := Lib.hid (fun W (h : Below w.heap.size w W) => wread_c s W (by omega) (hLH.out.below h).1 (hLH.out.below h).2.1 (hLH.out.below h).2.2)
  have CK := Lib.hid (fun W (h : Below w.heap.size w W) => rwread_c hRS s W (by omega))
  clear hsz
  go_enter Tryz.func5, Tryz.ntmps5
  go_wp2_with fail
  refine (C0.out).mono ?_
  rintro ev w1 ⟨rfl, hb1⟩
  replace hb1 := Lib.hid hb1
  go_upto_region 5 with fail
  go_wp2_with fail
  refine (CR.out w1 hb1.out).mono ?_
  rintro ev w2 ⟨hb, hcase⟩
  have hb2 := Lib.hid (hb1.out.trans (hb.mono hb1.out.size))
  have hb12 := Lib.hid hb
  clear hb
  rcases hcase with ⟨v0, v1, v2, v3, v4, v5, A, c, l, p, hr, hsl, rfl, hC, hc⟩ | ⟨hno, b, rfl, hbl, hbc⟩
  · have hl300 : l.length ≤ 128 := (wright_have hr).1
    have hs64 : ∀ x ∈ l, x.size ≤ 140737488351232 := fun x hx => by rw [(wright_have hr).2.1 x hx]; omega
    obtain ⟨g, hg⟩ : ∃ g, g = w2.heap.size := ⟨_, rfl⟩
    obtain ⟨w3, hw3⟩ : ∃ w3, w3 = w2.alloc (.cells (letCells v0 v1 v2 v3 v4 v5 A l.length c p) 24) := ⟨_, rfl⟩
    have hb23 : Below w2.heap.size w2 w3 := by rw [hw3]; exact below_alloc _ _
    have hS3 := Lib.hid (show St w w3 g (letCells v0 v1 v2 v3 v4 v5 A l.length c p) by rw [hw3, hg]; exact St.new _ _ _ hb2.out)
    have hC3 := Lib.hid (Kd.C_below hC hb23)
    have hcH := Lib.hid hc
    have CW := fun W (h : Below w3.heap.size w3 W) => Lib.hid (wwrite_c v0 v1 v2 v3 v4 v5 A c l p W (Kd.C_below hC3.out h) hcH.out (by omega) hs64 (hLH.out.below (hS3.out.step h).1).2.1 (hLH.out.below (hS3.out.step h).1).2.2)
    unfold WrPost at CW
    rw [hr] at CW
    simp only [if_true] at CW
    have hss : (⟨(lbytes [v0, v1, v2, v3, v4, v5] l p).toArray⟩ : ByteArray) = s := by
      rw [← hsl]
    rw [hss] at CW
    have CS := fun (B : Option Addr) (d : Nat) W (h : Below w3.heap.size w3 W) (hB : Kd.C Kd.string W B l.length l) (hd : l.length ≤ d) => Lib.hid (same17_c v0 v1 v2 v3 v4 v5 A c l p v0 v1 v2 v3 v4 v5 B d l p W (Kd.C_below hC3.out h) hcH.out hB hd)
    simp only [and_self, decide_true] at CS
    replace CK := Lib.hid (fun W h => (CK.out W h).mono fun ev w' h => rread_back hr hsl h)
    clear hC hc hb23 hr hsl hss hs64
    obtain ⟨n, hN⟩ : ∃ n, n = l.length := ⟨_, rfl⟩
    unfold letCells at hw3 hS3 CW CS CK ⊢
    rw [← hN] at hw3 hS3 CW CS CK ⊢
    replace hN := Lib.hid hN
    go_upto_region 6 with fail
    rw [← hw3, ← hg]
    replace hw3 := Lib.hid hw3
    replace hg := Lib.hid hg
    go_wp2_with fail
    refine (CK.out w3 hS3.out.1).mono ?_
    rintro ev w4 ⟨hb34, B, d, rfl, hB, hd⟩
    have hS4 := Lib.hid (hS3.out.step hb34)
    obtain ⟨k, hk⟩ : ∃ k, k = w4.heap.size := ⟨_, rfl⟩
    obtain ⟨w5, hw5⟩ : ∃ w5, w5 = w4.alloc (.cells #[.int .i64 v0, .int .i64 v1, .int .i64 v2, .int .i64 v3, .int .i64 v4, .int .i64 v5, .slice B n d, .string p] 24) := ⟨_, rfl⟩
    have hb45 : Below w4.heap.size w4 w5 := by rw [hw5]; exact below_alloc _ _
    have hS5 := Lib.hid (hS4.out.step hb45)
    have hM5 := Lib.hid (show St w w5 k #[.int .i64 v0, .int .i64 v1, .int .i64 v2, .int .i64 v3, .int .i64 v4, .int .i64 v5, .slice B n d, .string p] by rw [hw5, hk]; exact St.new _ _ _ hS4.out.1)
    have hB5 := Lib.hid (Kd.C_below hB hb45)
    have hdH := Lib.hid hd
    have hb35 := Lib.hid (hb34.trans (hb45.mono hb34.size))
    clear hb34 hb45 hB hd
    obtain ⟨f0, f1, f2, f3, f4, f5, f6, f7, _, _⟩ := let_facts hS5.out.2
    obtain ⟨m0, m1, m2, m3, m4, m5, m6, m7, _, _⟩ := let_facts hM5.out.2
    go_upto_region 7 with fail
    rw [← hw5, ← hk]
    replace hw5 := Lib.hid hw5
    replace hk := Lib.hid hk
    go_wp2_with fail
    refine ((CS B d w5 hb35.out hB5.out hdH.out).out).mono ?_
    rintro ev w6 ⟨rfl, hb⟩
    have hS6 := Lib.hid (hS5.out.step hb)
    have hb36 := Lib.hid (hb35.out.trans (hb.mono hb35.out.size))
    clear hb f0 f1 f2 f3 f4 f5 f6 f7 m0 m1 m2 m3 m4 m5 m6 m7
    obtain ⟨f0, f1, f2, f3, f4, f5, f6, f7, _, _⟩ := let_facts hS6.out.2
    go_wp2_with fail
    refine (Code_nil w6).mono ?_
    rintro ev w7 ⟨rfl, rfl⟩
    go_upto_region 9 with fail
    go_upto_region 12 with fail
    go_wp2_with fail
    refine ((CW w7 hb36.out).out).mono ?_
    rintro ev w8 ⟨rfl, hb⟩
    have hS8 := Lib.hid (hS6.out.step hb)
    clear hb
    go_wp2_with fail
    go_ret
    exact ⟨rfl, hS8.out.1⟩
  · obtain ⟨g, hg⟩ : ∃ g, g = w2.heap.size := ⟨_, rfl⟩
    obtain ⟨w3, hw3⟩ : ∃ w3, w3 = w2.alloc (.cells (letCells 0 0 0 0 0 0 none 0 0 ⟨#[]⟩) 24) := ⟨_, rfl⟩
    have hb23 : Below w2.heap.size w2 w3 := by rw [hw3]; exact below_alloc _ _
    have hS3 := Lib.hid (show St w w3 g (letCells 0 0 0 0 0 0 none 0 0 ⟨#[]⟩) by rw [hw3, hg]; exact St.new _ _ _ hb2.out)
    have hF3 := Lib.hid ((hb23.block _ (heap_lt hbc)).trans hbc)
    have nC : ∀ W, Kd.C Kd.string W none ([] : List ByteArray).length [] := fun W => ⟨rfl, by simp, fun h => absurd h (by simp)⟩
    have CS := Lib.hid (fun W => same17_c 0 0 0 0 0 0 none 0 [] ⟨#[]⟩ 0 0 0 0 0 0 none 0 [] ⟨#[]⟩ W (nC W) (Nat.le_refl _) (nC W) (Nat.le_refl _))
    simp only [and_self, decide_true, List.length_nil] at CS
    replace CK := Lib.hid (fun W h => (CK.out W h).mono fun ev w' h => rread_none hno h)
    have CC := Lib.hid (fun W (h : Below w.heap.size w W) (h2 : W.heap[b]? = some (.cells #[.string wireB, errno 5] 46 (0, 0))) => Code_fault 5 b W (hEH.out.below h) (by rw [cell_of h2]; rfl))
    have CI := Lib.hid (fun W (h2 : W.heap[b]? = some (.cells #[.string wireB, errno 5] 46 (0, 0))) => is_fault 5 b W (by rw [cell_of h2]; rfl))
    have CA := Lib.hid (fun t W (h : Below w.heap.size w W) h1 h2 => asP_any b t (.pointer none) W (hEH.out.below h) h1 h2)
    clear hno hbc hbl hb23
    unfold letCells at hw3 hS3 CS CK ⊢
    go_upto_region 6 with fail
    rw [← hw3, ← hg]
    replace hw3 := Lib.hid hw3
    replace hg := Lib.hid hg
    go_wp2_with fail
    refine (CK.out w3 hS3.out.1).mono ?_
    rintro ev w4 ⟨hb34, rfl⟩
    have hS4 := Lib.hid (hS3.out.step hb34)
    have hF4 := Lib.hid ((hb34.block _ (heap_lt hF3.out)).trans hF3.out)
    obtain ⟨k, hk⟩ : ∃ k, k = w4.heap.size := ⟨_, rfl⟩
    obtain ⟨w5, hw5⟩ : ∃ w5, w5 = w4.alloc (.cells #[.int .i64 0, .int .i64 0, .int .i64 0, .int .i64 0, .int .i64 0, .int .i64 0, .slice none 0 0, .string ⟨#[]⟩] 24) := ⟨_, rfl⟩
    have hb45 : Below w4.heap.size w4 w5 := by rw [hw5]; exact below_alloc _ _
    have hS5 := Lib.hid (hS4.out.step hb45)
    have hM5 := Lib.hid (show St w w5 k #[.int .i64 0, .int .i64 0, .int .i64 0, .int .i64 0, .int .i64 0, .int .i64 0, .slice none 0 0, .string ⟨#[]⟩] by rw [hw5, hk]; exact St.new _ _ _ hS4.out.1)
    have hF5 := Lib.hid ((hb45.block _ (heap_lt hF4.out)).trans hF4.out)
    clear hb34 hb45
    obtain ⟨f0, f1, f2, f3, f4, f5, f6, f7, _, _⟩ := let_facts hS5.out.2
    obtain ⟨m0, m1, m2, m3, m4, m5, m6, m7, _, _⟩ := let_facts hM5.out.2
    go_upto_region 7 with fail
    rw [← hw5, ← hk]
    replace hw5 := Lib.hid hw5
    replace hk := Lib.hid hk
    go_wp2_with fail
    refine (CS.out w5).mono ?_
    rintro ev w6 ⟨rfl, hb⟩
    have hS6 := Lib.hid (hS5.out.step hb)
    have hF6 := Lib.hid ((hb.block _ (heap_lt hF5.out)).trans hF5.out)
    clear hb f0 f1 f2 f3 f4 f5 f6 f7 m0 m1 m2 m3 m4 m5 m6 m7
    go_wp2_with fail
    refine (CC.out w6 hS6.out.1 hF6.out).mono ?_
    rintro ev w7 ⟨rfl, hb⟩
    have hS7 := Lib.hid (hS6.out.step hb)
    have hF7 := Lib.hid ((hb.block _ (heap_lt hF6.out)).trans hF6.out)
    clear hb
    go_upto_region 9 with fail
    go_upto_region 10 with fail
    obtain ⟨t, ht⟩ : ∃ t, t = w7.heap.size := ⟨_, rfl⟩
    obtain ⟨w8, hw8⟩ : ∃ w8, w8 = w7.alloc (.cells #[.pointer none] 42) := ⟨_, rfl⟩
    have ht8 := Lib.hid (show w8.heap[t]? = some (.cells #[.pointer none] 42 (0, 0)) by rw [hw8, ht]; exact heap_alloc_at _ _)
    have hb8 := Lib.hid (show Below w.heap.size w w8 by rw [hw8]; exact hS7.out.1.alloc hS7.out.1.size _)
    have hF8 := Lib.hid (show w8.heap[b]? = some (.cells #[.string wireB, errno 5] 46 (0, 0)) by rw [hw8]; exact (heap_alloc_lt _ _ _ (heap_lt hF7.out)).trans hF7.out)
    have hbt := Lib.hid (show b < t by rw [ht]; exact heap_lt hF7.out)
    have hwt := Lib.hid (show w.heap.size ≤ t by rw [ht]; exact hS7.out.1.size)
    go_upto_region 11 with fail
    rw [← hw8, ← ht]
    replace hw8 := Lib.hid hw8
    replace ht := Lib.hid ht
    go_wp2_with fail
    refine (CA.out ⟨t, 0, none⟩ w8 hb8.out (by rw [cell_of ht8.out]; rfl) (fr_of ht8.out 0)).mono ?_
    rintro ev w9 ⟨rfl, h9, hb⟩
    have hb9 := Lib.hid (hb8.out.trans (hb.mono hwt.out))
    have hF9 := Lib.hid ((hb.block _ hbt.out).trans hF8.out)
    have h9s : w9.cell? ⟨b, 0, none⟩ = some (.string wireB) := by rw [cell_of hF9.out]; rfl
    unfold wireB at h9s
    clear hb
    go_wp2_with fail
    refine (CI.out w9 hF9.out).mono ?_
    rintro ev w10 ⟨rfl, rfl⟩
    go_wp2_with fail
    go_ret
    exact ⟨rfl, hb9.out⟩
end Go.Proofs.YtbefkoljcacpcaaGreatDoor.Wi
set_option linter.unusedVariables false
set_option linter.unusedSimpArgs false
namespace Go.Proofs.YtbefkoljcacpcaaGreatDoor.Wi
open Go Go.RowKit Go.Proofs.YtbefkoljcacpcaaGreatDoor.B Go.Proofs.YtbefkoljcacpcaaGreatDoor.Tm
theorem reads17_any (s : ByteArray) (w : World) (hL : Lw w) (hE : Err.ErrT w) :
    Calls Tryz.prog 5 #[.string s] w fun e w' => e = .returned (.bool true) ∧ Below w.heap.size w w' :=
  reads17_walk (fun s w h => Ref.RSum_any s h w) s w hL hE
end Go.Proofs.YtbefkoljcacpcaaGreatDoor.Wi
