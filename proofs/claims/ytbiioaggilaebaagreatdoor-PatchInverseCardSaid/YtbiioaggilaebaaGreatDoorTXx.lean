/- What LawPatchInverse lean on, part x of 29: the texts PbD, PiB, PcC. -/
import Derived.Test.YtbiioaggilaebaaGreatDoorTX0
import Derived.Test.YtbiioaggilaebaaGreatDoorTXj
import Derived.Test.YtbiioaggilaebaaGreatDoorTXq
import Derived.Test.YtbiioaggilaebaaGreatDoorTXv
import Derived.Test.YtbiioaggilaebaaGreatDoorTXw
set_option linter.all false
set_option maxRecDepth 100000
set_option maxHeartbeats 16000000
namespace Go.Proofs.YtbiioaggilaebaaGreatDoor.Pa
open Go Go.RowKit YtbiioaggilaebaaGreatDoorW.PrintWords B Tm Wi
theorem smalls_texts : ∀ {l : List ByteArray}, smalls (lhave l) = true -> ∀ x ∈ l, x.size <= 65536
 | [], _, x, hx => by cases hx
 | y :: l, h, x, hx => by
  unfold lhave at h
  rw [List.map_cons, smalls, Bool.and_eq_true] at h
  rcases List.mem_cons.1 hx with rfl | hx
  . have := h.1
    unfold txt at this
    rw [F.small, Bool.and_eq_true, Bool.and_eq_true, decide_eq_true_eq, decide_eq_true_eq] at this
    have h1 := this.1.1
    rwa [Array.length_toList] at h1
  . exact smalls_texts (by unfold lhave; exact h.2) x hx
theorem pform_deps {note : ByteArray} {deps : List ByteArray} {ops : List Op} (h : (pform note deps ops).small = true) : ∀ x ∈ deps, x.size <= 65536 := by
 unfold pform lst at h
 rw [F.small, Bool.and_eq_true] at h
 have h2 := smalls_get (k := 2) h.2 rfl
 unfold tform lst at h2
 rw [F.small, Bool.and_eq_true] at h2
 exact smalls_texts h2.2
def RdAns (note : ByteArray) (deps : List ByteArray) (ops : List Op) (w : World) (ev : Ending) (w' : World) : Prop :=
 ∃ D dc A ac, ev = .returned (.tuple #[.agg #[.string note, .slice D deps.length dc, .slice A ops.length ac], .nilIface]) /\ TxAt w' D dc deps /\ OpsAt w' A ac ops /\ Below w.heap.size w w'
def P7 (note : ByteArray) (deps : List ByteArray) (w6 : World) (v : Value) (wc : World) : Prop :=
 ∃ Pb D dc, v = .pointer (some ⟨Pb, 0, none⟩) /\ PatAt wc Pb note D deps.length dc none 0 0 /\ TxAt wc D dc deps /\ (∀ a, D = some a -> a.block ≠ Pb /\ w6.heap.size <= a.block) /\ w6.heap.size <= Pb /\ Below w6.heap.size w6 wc
theorem p7_end {note : ByteArray} {deps : List ByteArray} {w6 W : World} {Pb : Nat} {D : Option Addr} {dc : Nat} (hP : W.heap[Pb]? = some (.cells #[.string ⟨#[]⟩, .slice none 0 0, .slice none 0 0] 25 (0, 0))) (hT : TxAt W D dc deps)
 (hD : ∀ a, D = some a -> a.block ≠ Pb /\ w6.heap.size <= a.block) (h6 : w6.heap.size <= Pb) (hb : Below w6.heap.size w6 W) :
 P7 note deps w6 (.pointer (some ⟨Pb, 0, none⟩)) (((W.setCell ⟨Pb, 0, none⟩ (.string note)).setCell ⟨Pb, 1, none⟩ (.slice D deps.length dc)).setCell ⟨Pb, 2, none⟩ (.slice none 0 0)) :=
 ⟨Pb, D, dc, rfl, set3 hP, hT.move fun _ a ha => set3_ne (hD a ha).1 _ _ _, hD, h6, ((hb.setCell h6 _).setCell h6 _).setCell h6 _⟩
theorem pread_ok (note : ByteArray) (deps : List ByteArray) (ops : List Op) (hp : pright note deps ops = true) (s : ByteArray) (hsb : s.data.toList = pbytes note deps ops) (w : World) (he : Errs w) (htab : Tab w) (hgB : 2 < w.heap.size) :
 Calls Tryz.prog 22 #[.string s] w (RdAns note deps ops w) := by
 have hs : s.size <= 65536 := by have := pright_len hp; rw [<- hsb, Array.length_toList] at this; exact this
 have hfit := lh (pright_fits hp)
 have hop5 := lh (fun o ho => pfits_op hfit.out o ho)
 have hszs := lh (show note.size <= 100 /\ deps.length <= 64 /\ ops.length <= 400 /\ made ops <= 300 by
  have hfit := hfit.out
  unfold pfits at hfit
  simp only [Bool.and_eq_true, decide_eq_true_eq] at hfit
  exact ⟨hfit.1.1, hfit.1.2.1, hfit.1.2.2, hfit.2.2.2⟩)
 obtain ⟨R, hR⟩ : ∃ R, R = w.heap.size := ⟨_, rfl⟩
 obtain ⟨w1, hw1⟩ : ∃ w1, w1 = w.alloc (.cells #[.string ⟨#[]⟩, .slice none 0 0, .slice none 0 0] 25) := ⟨_, rfl⟩
 obtain ⟨w2, hw2⟩ : ∃ w2, w2 = w1.alloc (.cells #[.string ⟨#[112, 97, 116, 99, 104]⟩, .iface 54 (.int .i64 10)] 52) := ⟨_, rfl⟩
 have hs1 : w1.heap.size = R + 1 := by rw [hw1, hR]; simp
 have hr1 : w1.heap[R]? = some (.cells #[.string ⟨#[]⟩, .slice none 0 0, .slice none 0 0] 25 (0, 0)) := by rw [hw1, hR]; exact heap_alloc_at _ _
 have hr2 := lh (show w2.heap[R]? = some (.cells #[.string ⟨#[]⟩, .slice none 0 0, .slice none 0 0] 25 (0, 0)) by rw [hw2, heap_alloc_lt _ _ _ (by omega)]; exact hr1)
 have hb2 := lh (show Below w.heap.size w w2 by rw [hw2, hw1]; exact ((Below.refl _ _).alloc (Nat.le_refl _) _).alloc (by simp) _)
 have CR := lh (read_c s w2 hs)
 have heH := lh he
 have htabH := lh htab
 have hgBH := lh hgB
 have hpH := lh hp
 have hsbH := lh hsb
 clear he htab hgB hr1 hp hsb hs
 go_enter Tryz.func22, Tryz.ntmps22
 go_upto_region 2 with fail
 rw [<- hw1, <- hR]
 try rw [hs1]
 rw [<- hw2]
 replace hw1 := lh hw1
 replace hw2 := lh hw2
 replace hs1 := lh hs1
 replace hR := lh hR
 go_wp2_with fail
 refine (CR.out).mono ?_
 rintro ev w3 ⟨f, c0, c1, c2, er, rfl, hFK, ⟨hsm, hers⟩, hspec, hb3⟩
 obtain ⟨rfl, hf⟩ := hspec (pform note deps ops) (pform_right _ _ _) (by have := pform_depth note deps ops; omega) hsbH.out
 subst hf
 have hdsz := lh (pform_deps hsm)
 have hFK2 := hFK
 unfold pform lst FK at hFK2
 obtain ⟨Af, kf, hcs, _, _, hF3⟩ := hFK2
 simp only [List.cons.injEq, and_true] at hcs
 obtain ⟨rfl, rfl, rfl⟩ := hcs
 have hF3H := lh hF3
 have hb3w := lh (hb2.out.trans (hb3.mono hb2.out.size))
 have hr3 := lh ((hb3.block _ (heap_lt hr2.out)).trans hr2.out)
 obtain ⟨Fb, hFb⟩ : ∃ Fb, Fb = w3.heap.size := ⟨_, rfl⟩
 obtain ⟨w4, hw4⟩ : ∃ w4, w4 = w3.alloc (.cells #[.bool true, .string ⟨#[]⟩, .slice Af 4 kf] 74) := ⟨_, rfl⟩
 obtain ⟨w5, hw5⟩ : ∃ w5, w5 = w4.alloc (.cells #[.bool false] 88) := ⟨_, rfl⟩
 have hs4 : w4.heap.size = Fb + 1 := by rw [hw4, hFb]; simp
 have hf4 : w4.heap[Fb]? = some (.cells #[.bool true, .string ⟨#[]⟩, .slice Af 4 kf] 74 (0, 0)) := by rw [hw4, hFb]; exact heap_alloc_at _ _
 have hf5 := lh (show w5.heap[Fb]? = some (.cells #[.bool true, .string ⟨#[]⟩, .slice Af 4 kf] 74 (0, 0)) by rw [hw5, heap_alloc_lt _ _ _ (by omega)]; exact hf4)
 have hrd5 := lh (show RdOk w5 (Fb + 1) by unfold RdOk; rw [hw5, <- hs4]; exact heap_alloc_at _ _)
 have hb35 := lh (show Below w3.heap.size w3 w5 by rw [hw5, hw4]; exact ((Below.refl _ _).alloc (Nat.le_refl _) _).alloc (by simp) _)
 have hb5w := lh (hb3w.out.trans (hb35.out.mono hb3w.out.size))
 have hr5 := lh ((hb35.out.block _ (heap_lt hr3.out)).trans hr3.out)
 have hF5 := lh (FKs.move (ok' := fun b => w2.heap.size <= b /\ b < w3.heap.size) (w' := w5) (fun b hb => ⟨hb, hb35.out.block b hb.2⟩) _ Af 0 hF3)
 have CI := lh (items_ok (Fb + 1) ⟨#[]⟩ Af 4 kf 4 (.inr rfl) w5 (by omega))
 clear hFK hF3 hspec hers hb3 CR hf4 hsm
 obtain ⟨f0, f1, f2, _, _⟩ := blk3' hf5.out
 go_upto_region 3 with fail
 rw [<- hw4, <- hFb]
 replace hw4 := lh hw4
 replace hFb := lh hFb
 have hs4H := lh hs4
 clear hs4
 go_upto_region 6 with fail
 rw [<- hw5]
 try rw [hs4H.out]
 replace hw5 := lh hw5
 go_wp2_with fail
 refine (CI.out).mono ?_
 rintro ev w6 ⟨rfl, hb6⟩
 have hb56 := lh hb6
 have hb6w := lh (hb5w.out.trans (hb6.mono hb5w.out.size))
 have hr6 := lh ((hb6.block _ (heap_lt hr5.out)).trans hr5.out)
 have hrd6 := lh (hrd5.out.below hb6)
 have hF6 := lh (FKs.move (ok' := fun b => w2.heap.size <= b /\ b < w3.heap.size) (w' := w6) (fun b hb => ⟨hb, hb6.block b (by have := hb35.out.size; omega)⟩) _ Af 0 hF5.out)
 clear hb6 f0 f1 f2 CI
 obtain ⟨b, o, A1, c1, rfl, hbo, n0, n1, n2⟩ := FKs.txt_at hF6.out 1 note.data.toList rfl
 obtain ⟨b', o', D2, dc2, e, _, d0, d1, d2, hFd⟩ := FKs.lst_at hF6.out 2 (lhave deps) rfl
 cases e
 rw [Nat.one_mul] at n0 n1 n2
 rw [show (⟨note.data.toList.toArray⟩ : ByteArray) = note from rfl] at n1
 rw [show (lhave deps).length = deps.length from by unfold lhave; rw [List.length_map]] at d2
 have hFdH := lh hFd
 obtain ⟨S, hS⟩ : ∃ S : World -> Prop, S = fun W => Below w6.heap.size w6 W := ⟨_, rfl⟩
 have hSi : ∀ W, S W ↔ Below w6.heap.size w6 W := fun W => by rw [hS]
 have s1 : ∀ X : InS S, X.val.cell? ⟨b, o + 3, none⟩ = some (.bool false) := fun X => keepc ((hSi X.val).1 X.mem) n0
 have s2 : ∀ X : InS S, X.val.cell? ⟨b, o + 3 + 1, none⟩ = some (.string note) := fun X => keepc ((hSi X.val).1 X.mem) n1
 have s3 : ∀ X : InS S, X.val.cell? ⟨b, o + 3 + 2, none⟩ = some (.slice A1 0 c1) := fun X => keepc ((hSi X.val).1 X.mem) n2
 have s4 : ∀ X : InS S, X.val.cell? ⟨b, o + 6, none⟩ = some (.bool true) := fun X => keepc ((hSi X.val).1 X.mem) d0
 have s5 : ∀ X : InS S, X.val.cell? ⟨b, o + 6 + 1, none⟩ = some (.string ⟨#[]⟩) := fun X => keepc ((hSi X.val).1 X.mem) d1
 have s6 : ∀ X : InS S, X.val.cell? ⟨b, o + 6 + 2, none⟩ = some (.slice D2 deps.length dc2) := fun X => keepc ((hSi X.val).1 X.mem) d2
 have hSiH := lh hSi
 have hS0 := lh (show S w6.drew from (hSi _).2 (Below.refl _ _).drew)
 have hne : Nonempty (InS S) := ⟨⟨w6.drew, hS0.out⟩⟩
 clear hS hSi n0 n1 n2 d0 d1 d2 hFd
 go_upto_region 7 with fail
 obtain ⟨NB, hNB⟩ : ∃ NB, NB = P7 note deps w6 := ⟨_, rfl⟩
 have hNBH := lh hNB
 clear hNB
 go_cut [9] (fun v wc => NB v wc)
 case first =>
  refine wp_region_tree S [0, 1, 2, 3, 5, 6, 7, 8] (.mem [0, 1, 2, 3, 5, 6, 7, 8] (.fork 4 (.fork 9 (.pure [10] (.keep 11 (.last 12 .done))) 11 (.keep 9 (.pure [10] (.last 12 .done)))) 11 (.keep 4 (.keep 9 (.pure [10] (.last 12 .done)))))) (by kernel_rfl) (by kernel_rfl) hS0.out ?_
  simp only [pick, List.getD_cons_zero, List.getD_cons_succ, wpTr]
  repeat (go_big_quiet_step (fail))
  refine wpQuiet_nil ?_
  clear s1 s2 s3 s4 s5 s6
  obtain ⟨wd, hwd⟩ : ∃ wd, wd = w6.drew := ⟨_, rfl⟩
  have hbd := lh (show Below w6.heap.size w6 wd by rw [hwd]; exact (Below.refl _ _).drew)
  rw [<- hwd]
  replace hwd := lh hwd
  have hT := lh (fun W (h : Below w6.heap.size w6 W) => text_ok (Fb + 1) note A1 0 c1 W (hrd6.out.below h))
  have hTs := lh (fun W (h : Below w6.heap.size w6 W) => texts_ok (Fb + 1) ⟨#[]⟩ D2 dc2 deps (fun b => w2.heap.size <= b /\ b < w3.heap.size) W (hrd6.out.below h) (FKs.move (ok' := fun b => w2.heap.size <= b /\ b < w3.heap.size) (w' := W) (fun b hb => ⟨hb, h.block b (by have := hb35.out.size; have := hb56.out.size; omega)⟩) _ D2 0 hFdH.out) (by have := hszs.out.2.1; omega) (fun x hx => by have := hdsz.out x hx; omega))
  refine ⟨?_, ?_⟩
  . go_wp2_with (go_at_call 54; (with_reducible refine (hT.out _ hbd.out).mono ?_); rintro ev w7 ⟨rfl, hb7⟩)
    have hb7w := lh (hbd.out.trans (hb7.mono hbd.out.size))
    clear hb7
    refine ⟨(hSiH.out _).2 hb7w.out, ?_⟩
    refine ⟨?_, ?_⟩
    . go_wp2_with (go_at_call 55; (with_reducible refine (hTs.out _ hb7w.out).mono ?_); rintro ev w8 ⟨D, dc, rfl, hTx, hDb, hb8⟩)
      have hb8w := lh (hb7w.out.trans (hb8.mono hb7w.out.size))
      have hTxH := lh hTx
      have hDbH := lh hDb
      clear hb8 hTx hDb
      refine ⟨(hSiH.out _).2 hb8w.out, ?_⟩
      repeat (go_big_quiet_step (fail))
      refine wpQuiet_nil ?_
      go_wp2_with fail
      obtain ⟨Pb, hPbe⟩ : ∃ Pb, Pb = w8.heap.size := ⟨_, rfl⟩
      obtain ⟨w9, hw9⟩ : ∃ w9, w9 = w8.alloc (.cells #[.string ⟨#[]⟩, .slice none 0 0, .slice none 0 0] 25) := ⟨_, rfl⟩
      have hPb := lh (show w9.heap[Pb]? = some (.cells #[.string ⟨#[]⟩, .slice none 0 0, .slice none 0 0] 25 (0, 0)) by rw [hw9, hPbe]; exact heap_alloc_at _ _)
      have hbF := lh (show Below w6.heap.size w6 w9 by rw [hw9]; exact hb8w.out.alloc hb8w.out.size _)
      have hPbw := lh (show w6.heap.size <= Pb by rw [hPbe]; exact hb8w.out.size)
      have hTF := lh (show TxAt w9 D dc deps by rw [hw9]; exact hTxH.out.below (Wi.below_alloc _ _))
      have hDF := lh (show ∀ a, D = some a -> a.block ≠ Pb /\ w6.heap.size <= a.block from fun a ha => ⟨by have := (hDbH.out a ha).2; omega, Nat.le_trans hb7w.out.size (hDbH.out a ha).1⟩)
      rw [<- hw9]
      try rw [<- hPbe]
      replace hw9 := lh hw9
      replace hPbe := lh hPbe
      refine ⟨(hSiH.out _).2 hbF.out, ?_⟩
      obtain ⟨e0, e1, e2, esh, efz⟩ := blk3' hPb.out
      go_wp2_with fail
      simp only [stepPost]
      go_wp2_with fail
      go_meet
      case rel => rw [hNBH.out]; exact p7_end hPb.out hTF.out hDF.out hPbw.out hbF.out
    . go_wp2_with fail
      obtain ⟨Pb, hPbe⟩ : ∃ Pb, Pb = w7.heap.size := ⟨_, rfl⟩
      obtain ⟨w8, hw8⟩ : ∃ w8, w8 = w7.alloc (.cells #[.string ⟨#[]⟩, .slice none 0 0, .slice none 0 0] 25) := ⟨_, rfl⟩
      have hPb8 := lh (show w8.heap[Pb]? = some (.cells #[.string ⟨#[]⟩, .slice none 0 0, .slice none 0 0] 25 (0, 0)) by rw [hw8, hPbe]; exact heap_alloc_at _ _)
      have hb8w := lh (show Below w6.heap.size w6 w8 by rw [hw8]; exact hb7w.out.alloc hb7w.out.size _)
      have hPbw := lh (show w6.heap.size <= Pb by rw [hPbe]; exact hb7w.out.size)
      rw [<- hw8]
      try rw [<- hPbe]
      replace hw8 := lh hw8
      replace hPbe := lh hPbe
      refine ⟨(hSiH.out _).2 hb8w.out, ?_⟩
      go_wp2_with (go_at_call 55; (with_reducible refine (hTs.out _ hb8w.out).mono ?_); rintro ev w9 ⟨D, dc, rfl, hTx, hDb, hb9⟩)
      have hbF := lh (hb8w.out.trans (hb9.mono hb8w.out.size))
      have hPb := lh ((hb9.block _ (heap_lt hPb8.out)).trans hPb8.out)
      have hTF := lh hTx
      have hDF := lh (show ∀ a, D = some a -> a.block ≠ Pb /\ w6.heap.size <= a.block from fun a ha => ⟨by have := (hDb a ha).1; have := heap_lt hPb8.out; omega, Nat.le_trans hb8w.out.size (hDb a ha).1⟩)
      clear hb9 hTx hDb
      refine ⟨(hSiH.out _).2 hbF.out, ?_⟩
      repeat (go_big_quiet_step (fail))
      refine wpQuiet_nil ?_
      obtain ⟨e0, e1, e2, esh, efz⟩ := blk3' hPb.out
      go_wp2_with fail
      simp only [stepPost]
      go_wp2_with fail
      go_meet
      case rel => rw [hNBH.out]; exact p7_end hPb.out hTF.out hDF.out hPbw.out hbF.out
  . go_wp2_with fail
    obtain ⟨Pb, hPbe⟩ : ∃ Pb, Pb = wd.heap.size := ⟨_, rfl⟩
    obtain ⟨w7, hw7⟩ : ∃ w7, w7 = wd.alloc (.cells #[.string ⟨#[]⟩, .slice none 0 0, .slice none 0 0] 25) := ⟨_, rfl⟩
    have hPb7 := lh (show w7.heap[Pb]? = some (.cells #[.string ⟨#[]⟩, .slice none 0 0, .slice none 0 0] 25 (0, 0)) by rw [hw7, hPbe]; exact heap_alloc_at _ _)
    have hb7w := lh (show Below w6.heap.size w6 w7 by rw [hw7]; exact hbd.out.alloc hbd.out.size _)
    have hPbw := lh (show w6.heap.size <= Pb by rw [hPbe]; exact hbd.out.size)
    rw [<- hw7]
    try rw [<- hPbe]
    replace hw7 := lh hw7
    replace hPbe := lh hPbe
    refine ⟨(hSiH.out _).2 hb7w.out, ?_⟩
    go_wp2_with (go_at_call 54; (with_reducible refine (hT.out _ hb7w.out).mono ?_); rintro ev w8 ⟨rfl, hb8⟩)
    have hb8w := lh (hb7w.out.trans (hb8.mono hb7w.out.size))
    have hPb8 := lh ((hb8.block _ (heap_lt hPb7.out)).trans hPb7.out)
    clear hb8
    refine ⟨(hSiH.out _).2 hb8w.out, ?_⟩
    go_wp2_with (go_at_call 55; (with_reducible refine (hTs.out _ hb8w.out).mono ?_); rintro ev w9 ⟨D, dc, rfl, hTx, hDb, hb9⟩)
    have hbF := lh (hb8w.out.trans (hb9.mono hb8w.out.size))
    have hPb := lh ((hb9.block _ (heap_lt hPb8.out)).trans hPb8.out)
    have hTF := lh hTx
    have hDF := lh (show ∀ a, D = some a -> a.block ≠ Pb /\ w6.heap.size <= a.block from fun a ha => ⟨by have := (hDb a ha).1; have := heap_lt hPb8.out; omega, Nat.le_trans hb8w.out.size (hDb a ha).1⟩)
    clear hb9 hTx hDb
    refine ⟨(hSiH.out _).2 hbF.out, ?_⟩
    repeat (go_big_quiet_step (fail))
    refine wpQuiet_nil ?_
    obtain ⟨e0, e1, e2, esh, efz⟩ := blk3' hPb.out
    go_wp2_with fail
    simp only [stepPost]
    go_wp2_with fail
    go_meet
    case rel => rw [hNBH.out]; exact p7_end hPb.out hTF.out hDF.out hPbw.out hbF.out
 case rest =>
  rw [hNBH.out] at hcut
  obtain ⟨Pb, D, dc, rfl, hPat, hTx, hDb, hPb6, hbc⟩ := hcut
  obtain ⟨nd, hnd⟩ : ∃ nd, nd = deps.length := ⟨_, rfl⟩
  obtain ⟨no, hno⟩ : ∃ no, no = ops.length := ⟨_, rfl⟩
  have hnd4 : nd <= 64 := by rw [hnd]; exact hszs.out.2.1
  have hno4 : no <= 400 := by rw [hno]; exact hszs.out.2.2.1
  have hFo := FKs.move (ok' := fun b => w2.heap.size <= b /\ b < w3.heap.size) (w' := wc) (fun b hb => ⟨hb, hbc.block b (by have := hb35.out.size; have := hb56.out.size; omega)⟩) _ (some ⟨b, o, none⟩) 0 hF6.out
  obtain ⟨b', o', Ao, co, e, hbo3, m0, m1, m2, hFi⟩ := FKs.lst_at hFo 3 (ops.map oform) rfl
  cases e
  obtain ⟨b'', o'', At, ct, e, _, t0, t1, t2⟩ := FKs.txt_at hFo 0 tambourB.data.toList rfl
  cases e
  rw [Nat.zero_mul, Nat.add_zero] at t0 t1 t2
  rw [show (⟨tambourB.data.toList.toArray⟩ : ByteArray) = tambourB from rfl] at t1
  rw [show (ops.map oform).length = ops.length from List.length_map .., <- hno] at m2
  unfold PatAt at hPat
  rw [<- hnd] at hPat
  have hnoH := lh hno
  have hndH := lh hnd
  have hPatH := lh hPat
  have hTxH := lh hTx
  have hDbH := lh hDb
  have hbcH := lh hbc
  have hPb6H := lh hPb6
  have hFiH := lh hFi
  have htH := lh (show _ /\ _ /\ _ from ⟨t0, t1, t2⟩)
  have hboH := lh hbo
  have CI := lh (items_ok (Fb + 1) ⟨#[]⟩ Ao no co (-1) (.inl rfl) wc (by omega))
  clear hno hnd hPat hTx hDb hbc hPb6 hFi hFo t0 t1 t2 s1 s2 s3 s4 s5 s6 hbo3 hbo
  go_wp2_with fail
  refine (CI.out).mono ?_
  rintro ev w8 ⟨rfl, hb8⟩
  have hb68 := lh (hbcH.out.trans (hb8.mono hbcH.out.size))
  have hb8w := lh (hb6w.out.trans (hb68.out.mono hb6w.out.size))
  have hPat8 := lh ((hb8.block _ (heap_lt hPatH.out)).trans hPatH.out)
  have hTx8 := lh (hTxH.out.below hb8)
  have hFi8 := lh (FKs.move (ok' := fun b => w2.heap.size <= b /\ b < w3.heap.size) (w' := w8) (fun b hb => ⟨hb, hb8.block b (by have := hb35.out.size; have := hb56.out.size; have := hbcH.out.size; omega)⟩) _ Ao 0 hFiH.out)
  have ht8 := lh (show _ /\ _ /\ _ from ⟨keepc hb8 htH.out.1, keepc hb8 htH.out.2.1, keepc hb8 htH.out.2.2⟩)
  have hrd8 := lh ((hrd6.out.below hbcH.out).below hb8)
  have hsz38 := lh (show w3.heap.size <= w6.heap.size /\ w6.heap.size <= w8.heap.size /\ Pb < w8.heap.size from ⟨Nat.le_trans hb35.out.size hb56.out.size, hb68.out.size, heap_lt hPat8.out⟩)
  have hFb6 := lh (show Fb + 1 < w6.heap.size from heap_lt hrd6.out)
  clear hb8 m0 m1 m2 CI hPatH hTxH hFiH htH
  go_upto_region 9 with fail
  go_loopg [48] no (fun g' i W => ∃ (k : Nat) (v : Value), g' = no - k /\ k <= no /\ i = .int .i64 k /\ W.heap[Pb]? = some (.cells #[.string note, .slice D nd dc, v] 25 (0, 0)) /\ OBag w8.heap.size W v (ops.take k) /\ Tch (fun b => b = Pb) w8 W)
  case atStart => exact ⟨0, .slice none 0 0, by omega, by omega, rfl, hPat8.out, OBag.nil _ _, Tch.refl _ _⟩
  case round =>
   obtain ⟨k, v, hg', hk, rfl, hPbr, hbag, hTc⟩ := hrel
   subst hg'
   have hPbrH := lh hPbr
   have hbagH := lh hbag
   have hTcH := lh hTc
   have hbw := lh (show Below w.heap.size w wr from hb8w.out.trans (hTc.below (B := w.heap.size) hb8w.out.size (fun k hk _ => by subst hk; have := hPb6H.out; have := hb6w.out.size; omega)))
   have hPlt := lh (heap_lt hPbr)
   have hrdr := lh (show RdOk wr (Fb + 1) from hTc.heap hrd8.out (show ¬ Fb + 1 = Pb by have := hPb6H.out; have := hFb6.out; omega))
   by_cases hkn : k < no
   . have hki : (k : Int) < (no : Int) := by omega
     have hkl : k < ops.length := by rw [<- hnoH.out]; exact hkn
     obtain ⟨x, hx⟩ : ∃ x, x = ops[k] := ⟨_, rfl⟩
     have hop := hop5.out x (by rw [hx]; exact List.getElem_mem hkl)
     have hnext := (show ops.take (k + 1) = ops.take k ++ [x] by rw [hx]; exact List.take_succ_eq_append_getElem hkl)
     have hmk : x.ls.length <= 300 := by
      have h1 := hop.2.2.2.2
      have h2 : mk1 x <= made ops := by
       have := made_append (ops.take k) [x]
       rw [<- hnext] at this
       have h3 := made_take ops (k + 1)
       rw [made_cons, made_nil] at this
       omega
      have := hszs.out.2.2.2
      omega
     have hFr := FKs.move (ok' := fun b => w2.heap.size <= b /\ b < w3.heap.size) (w' := wr) (fun b hb => ⟨hb, hTc.block b (by have := hsz38.out; omega) (by have := hPb6H.out; have := hsz38.out; omega)⟩) _ Ao 0 hFi8.out
     obtain ⟨bo, oo, Ai, ci, rfl, hbo1, i0, i1, i2, hF4⟩ := FKs.lst_at hFr k [nform x.k, rform x.a x.m, rform x.b x.n, tform x.ls] (by rw [List.getElem?_map, List.getElem?_eq_getElem hkl, <- hx]; rfl)
     rw [show ([nform x.k, rform x.a x.m, rform x.b x.n, tform x.ls] : List F).length = 4 from rfl] at i2
     replace hx := lh hx
     obtain ⟨xk, xa, xm, xb, xn, xls⟩ := x
     simp only at hop hmk hF4
     have hopH := lh hop
     have hmkH := lh hmk
     have hnextH := lh hnext
     have hF4H := lh hF4
     have hlen := lh (show (ops.take k).length = k by rw [List.length_take]; omega)
     obtain ⟨Q, hQ⟩ : ∃ Q, Q = wr.heap.size := ⟨_, rfl⟩
     obtain ⟨W1, hW1⟩ : ∃ W1, W1 = wr.alloc (.cells #[.bool true, .string ⟨#[]⟩, .slice Ai 4 ci] 74) := ⟨_, rfl⟩
     have hq1 := lh (show W1.heap[Q]? = some (.cells #[.bool true, .string ⟨#[]⟩, .slice Ai 4 ci] 74 (0, 0)) by rw [hW1, hQ]; exact heap_alloc_at _ _)
     have hbW1 := lh (show Below wr.heap.size wr W1 by rw [hW1]; exact Wi.below_alloc _ _)
     have CI := lh (items_ok (Fb + 1) ⟨#[]⟩ Ai 4 ci 4 (.inr rfl) W1 (by omega))
     obtain ⟨z0, z1, z2, _, _⟩ := blk3' hq1.out
     clear hPbr hbag hTc hop hmk hnext hF4 hFr
     go_upto_region 11 with fail
     rw [<- hW1, <- hQ]
     replace hW1 := lh hW1
     replace hQ := lh hQ
     go_wp2_with fail
     refine (CI.out).mono ?_
     rintro ev W2 ⟨rfl, hbW2⟩
     have y2 := lh (hbW1.out.trans (hbW2.mono hbW1.out.size))
     clear hbW2 z0 z1 z2 i0 i1 i2 CI
     obtain ⟨wd, hwd⟩ : ∃ wd, wd = W2.drew := ⟨_, rfl⟩
     have yd := lh (show Below wr.heap.size wr wd by rw [hwd]; exact y2.out.drew)
     have hPd := lh ((yd.out.block _ hPlt.out).trans hPbrH.out)
     have hF4d := FKs.move (ok' := fun b => w2.heap.size <= b /\ b < w3.heap.size) (w' := wd) (fun b hb => ⟨hb, yd.out.block b (by have := hsz38.out; have := hTcH.out.size; omega)⟩) _ Ai 0 hF4H.out
     obtain ⟨bi, oi, A0, c0, rfl, hbi, a0, a1, a2⟩ := FKs.txt_at hF4d 0 (Lib.itoa xk) rfl
     obtain ⟨_, _, Aa, ca, e, _, b0, b1, b2, hFa⟩ := FKs.lst_at hF4d 1 [nform xa, nform xm] rfl
     cases e
     obtain ⟨_, _, Ab, cb, e, _, d0, d1, d2, hFb'⟩ := FKs.lst_at hF4d 2 [nform xb, nform xn] rfl
     cases e
     obtain ⟨_, _, Al, cl, e, _, l0, l1, l2, hFl⟩ := FKs.lst_at hF4d 3 (lhave xls) rfl
     cases e
     rw [Nat.zero_mul, Nat.add_zero] at a0 a1 a2
     rw [Nat.one_mul] at b0 b1 b2
     rw [show ([nform xa, nform xm] : List F).length = 2 from rfl] at b2
     rw [show ([nform xb, nform xn] : List F).length = 2 from rfl] at d2
     rw [show (lhave xls).length = xls.length from by unfold lhave; rw [List.length_map]] at l2
     obtain ⟨nl, hnl⟩ : ∃ nl, nl = xls.length := ⟨_, rfl⟩
     rw [<- hnl] at l2
     replace hnl := lh hnl
     have hz8 := lh (show w8.heap.size <= wr.heap.size from hTcH.out.size)
     have hPv : wd.cell? ⟨Pb, 2, none⟩ = some v := by rw [cell_of hPd.out]; rfl
     have hbi8 : bi < w8.heap.size := by have := hsz38.out; omega
     obtain ⟨S, hS⟩ : ∃ S : World -> Prop, S = fun W => ∀ b, b < w8.heap.size -> W.heap[b]? = wd.heap[b]? := ⟨_, rfl⟩
     have hSi : ∀ W, S W ↔ ∀ b, b < w8.heap.size -> W.heap[b]? = wd.heap[b]? := fun W => by rw [hS]
     have sc : ∀ (X : InS S) (b i : Nat) (u : Value), b < w8.heap.size -> wd.cell? ⟨b, i, none⟩ = some u -> X.val.cell? ⟨b, i, none⟩ = some u := fun X b i u hb h => (World.cell?_of_block (a := ⟨b, i, none⟩) ((hSi X.val).1 X.mem b hb)).trans h
     have s0 : ∀ X : InS S, X.val.cell? ⟨Pb, 2, none⟩ = some v := fun X => sc X _ _ _ hsz38.out.2.2 hPv
     have s1 : ∀ X : InS S, X.val.cell? ⟨bi, oi, none⟩ = some (.bool false) := fun X => sc X _ _ _ hbi8 a0
     have s2 : ∀ X : InS S, X.val.cell? ⟨bi, oi + 1, none⟩ = some (.string ⟨(Lib.itoa xk).toArray⟩) := fun X => sc X _ _ _ hbi8 a1
     have s3 : ∀ X : InS S, X.val.cell? ⟨bi, oi + 2, none⟩ = some (.slice A0 0 c0) := fun X => sc X _ _ _ hbi8 a2
     have s4 : ∀ X : InS S, X.val.cell? ⟨bi, oi + 3, none⟩ = some (.bool true) := fun X => sc X _ _ _ hbi8 b0
     have s5 : ∀ X : InS S, X.val.cell? ⟨bi, oi + 3 + 1, none⟩ = some (.string ⟨#[]⟩) := fun X => sc X _ _ _ hbi8 b1
     have s6 : ∀ X : InS S, X.val.cell? ⟨bi, oi + 3 + 2, none⟩ = some (.slice Aa 2 ca) := fun X => sc X _ _ _ hbi8 b2
     have s7 : ∀ X : InS S, X.val.cell? ⟨bi, oi + 6, none⟩ = some (.bool true) := fun X => sc X _ _ _ hbi8 d0
     have s8 : ∀ X : InS S, X.val.cell? ⟨bi, oi + 6 + 1, none⟩ = some (.string ⟨#[]⟩) := fun X => sc X _ _ _ hbi8 d1
     have s9 : ∀ X : InS S, X.val.cell? ⟨bi, oi + 6 + 2, none⟩ = some (.slice Ab 2 cb) := fun X => sc X _ _ _ hbi8 d2
     have s10 : ∀ X : InS S, X.val.cell? ⟨bi, oi + 9, none⟩ = some (.bool true) := fun X => sc X _ _ _ hbi8 l0
     have s11 : ∀ X : InS S, X.val.cell? ⟨bi, oi + 9 + 1, none⟩ = some (.string ⟨#[]⟩) := fun X => sc X _ _ _ hbi8 l1
     have s12 : ∀ X : InS S, X.val.cell? ⟨bi, oi + 9 + 2, none⟩ = some (.slice Al nl cl) := fun X => sc X _ _ _ hbi8 l2
     have hSiH := lh hSi
     have hS0 := lh (show S wd from (hSi _).2 (fun _ _ => rfl))
     have hne : Nonempty (InS S) := ⟨⟨wd, hS0.out⟩⟩
     have hFaH := lh hFa
     have hFbH := lh hFb'
     have hFlH := lh hFl
     have hwdH := lh hwd
     clear hS hSi sc a0 a1 a2 b0 b1 b2 d0 d1 d2 l0 l1 l2 hF4d hFa hFb' hFl hPv hwd hbi hbi8
     go_upto_region 12 with fail
     refine wp_region_mix S [0, 1, 2, 3, 4, 5, 7, 8, 9, 10, 12, 13, 14, 15, 17, 18, 19, 20] [.mem [0, 1, 2, 3, 4, 5, 7, 8, 9, 10, 12, 13, 14, 15, 17, 18, 19, 20], .keep 6, .keep 11, .keep 16, .keep 21, .pure [22], .keep 23, .keep 24, .pure [25], .last 26] (by kernel_rfl) (by kernel_rfl) (by rw [<- hwdH.out]; exact hS0.out) ?_
     simp only [pick, List.getD_cons_zero, List.getD_cons_succ, wpMix]
     rw [<- hwdH.out]
     repeat (go_big_quiet_step (fail))
     refine wpQuiet_nil ?_
     clear s0 s1 s2 s3 s4 s5 s6 s7 s8 s9 s10 s11 s12
     have ywd := lh (hbw.out.trans (yd.out.mono hbw.out.size))
     have hrdd := lh (hrdr.out.below yd.out)
     have hzd := lh (show w8.heap.size <= wd.heap.size from Nat.le_trans hz8.out yd.out.size)
     have hxb := lh (show (-2 <= xk /\ xk <= 65536) /\ ((-2 <= xa /\ xa <= 65536) /\ -2 <= xm /\ xm <= 65536) /\ (-2 <= xb /\ xb <= 65536) /\ -2 <= xn /\ xn <= 65536 by
      obtain ⟨q1, ⟨q2, q3⟩, ⟨q4, q5⟩, _⟩ := hopH.out
      omega)
     have hxs := lh (show ∀ x ∈ xls, x.size <= 140737488351232 from fun x hx => by have := hopH.out.2.2.2.1 x hx; omega)
     go_wp2_with (go_at_call 56; (with_reducible refine (num_ok (Fb + 1) xk hxb.out.1 c0 A0 _ hrdd.out (heH.out.below ywd.out) (htabH.out.keep ywd.out hgBH.out)).mono ?_); rintro ev W4 ⟨rfl, hb4⟩)
     have y4 := lh (yd.out.trans (hb4.mono yd.out.size))
     have v4 := lh (show Below wd.heap.size wd W4 from hb4)
     clear hb4
     refine ⟨(hSiH.out _).2 (fun b hb => v4.out.block b (Nat.lt_of_lt_of_le hb hzd.out)), ?_⟩
     have yw4 := lh (hbw.out.trans (y4.out.mono hbw.out.size))
     have CA := lh (ref_ok (Fb + 1) ⟨#[]⟩ Aa ca xa xm hxb.out.2.1.1 hxb.out.2.1.2 (fun b => w2.heap.size <= b /\ b < w3.heap.size) W4 (hrdr.out.below y4.out) (heH.out.below yw4.out) (htabH.out.keep yw4.out hgBH.out) (Nat.lt_of_lt_of_le hgBH.out yw4.out.size) (FKs.move (ok' := fun b => w2.heap.size <= b /\ b < w3.heap.size) (w' := W4) (fun b hb => ⟨hb, v4.out.block b (by have := hsz38.out; have := hzd.out; omega)⟩) _ Aa 0 hFaH.out))
     go_wp2_with (go_at_call 57; (with_reducible refine (CA.out).mono ?_); rintro ev W5 ⟨rfl, hb5⟩)
     clear CA
     have y5 := lh (y4.out.trans (hb5.mono y4.out.size))
     have v5 := lh (v4.out.trans (hb5.mono v4.out.size))
     clear hb5
     refine ⟨(hSiH.out _).2 (fun b hb => v5.out.block b (Nat.lt_of_lt_of_le hb hzd.out)), ?_⟩
     have yw5 := lh (hbw.out.trans (y5.out.mono hbw.out.size))
     have CB := lh (ref_ok (Fb + 1) ⟨#[]⟩ Ab cb xb xn hxb.out.2.2.1 hxb.out.2.2.2 (fun b => w2.heap.size <= b /\ b < w3.heap.size) W5 (hrdr.out.below y5.out) (heH.out.below yw5.out) (htabH.out.keep yw5.out hgBH.out) (Nat.lt_of_lt_of_le hgBH.out yw5.out.size) (FKs.move (ok' := fun b => w2.heap.size <= b /\ b < w3.heap.size) (w' := W5) (fun b hb => ⟨hb, v5.out.block b (by have := hsz38.out; have := hzd.out; omega)⟩) _ Ab 0 hFbH.out))
     go_wp2_with (go_at_call 57; (with_reducible refine (CB.out).mono ?_); rintro ev W6 ⟨rfl, hb6⟩)
     clear CB
     have y6 := lh (y5.out.trans (hb6.mono y5.out.size))
     have v6 := lh (v5.out.trans (hb6.mono v5.out.size))
     clear hb6
     refine ⟨(hSiH.out _).2 (fun b hb => v6.out.block b (Nat.lt_of_lt_of_le hb hzd.out)), ?_⟩
     have CT := lh (show Calls Tryz.prog 55 #[.pointer (some ⟨Fb + 1, 0, none⟩), .agg #[.bool true, .string ⟨#[]⟩, .slice Al nl cl]] W6 fun e w' => ∃ D dc, e = .returned (.slice D nl dc) /\ TxAt w' D dc xls /\ (∀ a, D = some a -> W6.heap.size <= a.block /\ a.block < w'.heap.size) /\ Below W6.heap.size W6 w' by
      have := texts_ok (Fb + 1) ⟨#[]⟩ Al cl xls (fun b => w2.heap.size <= b /\ b < w3.heap.size) W6 (hrdr.out.below y6.out) (FKs.move (ok' := fun b => w2.heap.size <= b /\ b < w3.heap.size) (w' := W6) (fun b hb => ⟨hb, v6.out.block b (by have := hsz38.out; have := hzd.out; omega)⟩) _ Al 0 hFlH.out) (by have := hmkH.out; omega) hxs.out
      rw [<- hnl.out] at this
      exact this)
     go_wp2_with (go_at_call 55; (with_reducible refine (CT.out).mono ?_); rintro ev W7 ⟨DL, dl, rfl, hTL, hDL, hb7⟩)
     clear CT
     have y7 := lh (y6.out.trans (hb7.mono y6.out.size))
     have v7 := lh (v6.out.trans (hb7.mono v6.out.size))
     have hTLH := lh hTL
     have hDLH := lh hDL
     clear hb7 hTL hDL
     refine ⟨(hSiH.out _).2 (fun b hb => v7.out.block b (Nat.lt_of_lt_of_le hb hzd.out)), ?_⟩
     repeat (go_big_quiet_step (fail))
     refine wpQuiet_nil ?_
     go_wp2_with fail
     rw [show (Obj.cells #[.int .i64 xk, .int .i64 xa, .int .i64 xm, .int .i64 xb, .int .i64 xn, .slice DL nl dl] 38 (0, 0)) = .cells (opCells ⟨xk, xa, xm, xb, xn, xls⟩ DL dl) 38 (0, 0) by unfold opCells; rw [hnl.out]]
     refine ⟨(hSiH.out _).2 (fun b hb => (heap_alloc_lt _ _ _ (by have := v7.out.size; have := hzd.out; omega)).trans (v7.out.block b (Nat.lt_of_lt_of_le hb hzd.out))), ?_⟩
     have hbag7 := lh (hbagH.out.below y7.out)
     have hvb := lh (show ∀ b, v.ownBlock = some b -> w8.heap.size <= b /\ b < wr.heap.size from fun b hb => hbagH.out.lt b hb)
     have hA7 := lh (show 0 < (Op.mk xk xa xm xb xn xls).ls.length -> ∀ ad, DL = some ad -> w8.heap.size <= ad.block /\ ad.block < W7.heap.size /\ some ad.block ≠ v.ownBlock from fun _ ad had => ⟨by have := (hDLH.out ad had).1; have := y6.out.size; have := hz8.out; omega, (hDLH.out ad had).2, fun e => by have := (hvb.out _ e.symm).2; have := (hDLH.out ad had).1; have := y6.out.size; omega⟩)
     have hk1m := lh (show k <= 1000000 by omega)
     have hb7s := lh (show w8.heap.size <= W7.heap.size from Nat.le_trans hz8.out y7.out.size)
     go_wp2_with (at_builtin; refine ops_app (by rfl) _ _ _ (by rfl) Tryz.underlying23 (by rfl) k 1 (by rfl) hbag7.out hTLH.out hA7.out hlen.out hk1m.out hb7s.out ?_; intro g7 cap7 W8 hbag8 hgrew8)
     have hPbv := lh (show some Pb ≠ v.ownBlock from fun e => by have := (hvb.out _ e.symm).1; have := hsz38.out.2.2; omega)
     have hnb8 := lh (show ∀ b, b < w8.heap.size -> some b ≠ v.ownBlock from fun b hb e => by have := (hvb.out _ e.symm).1; omega)
     have hP8 := hgrew8.heap ((y7.out.block _ hPlt.out).trans hPbrH.out) hPbv.out
     have hP8H := lh hP8
     have hbag8H := lh hbag8
     have hgrew8H := lh hgrew8
     refine ⟨(hSiH.out _).2 (fun b hb => ?_), ?_⟩
     . have hbW : b < W7.heap.size := by have := v7.out.size; have := hzd.out; omega
       have h1 := v7.out.block b (Nat.lt_of_lt_of_le hb hzd.out)
       have h2 : W7.heap[b]? = some W7.heap[b] := Array.getElem?_eq_getElem hbW
       rw [h2] at h1
       exact (hgrew8H.out.heap h2 (hnb8.out b hb)).trans h1
     obtain ⟨e0, e1, e2, esh, efz⟩ := blk3' hP8H.out
     clear hP8 hbag8 hgrew8
     repeat (go_big_quiet_step (fail))
     refine wpQuiet_nil ?_
     go_wp2_with fail
     simp only [stepPost]
     go_wp2_with fail
     go_roundg (no - (k + 1))
     case measure => omega
     case rel =>
      refine ⟨k + 1, .slice (some ⟨g7, 0, none⟩) (k + 1) cap7, rfl, by omega, by go_num, heap_set _ _ _ _ _ _ _ hP8H.out, ?_, ?_⟩
      . rw [hnextH.out]
        exact hbag8H.out.keep (fun b h1 h2 => heap_set_ne _ _ _ _ (by show b ≠ Pb; have := hsz38.out.2.2; omega)) (by rw [size_set]; exact Nat.le_refl _)
      . exact (hgrew8H.out.tch (hTcH.out.trans (Tch.of_new y7.out)) (fun b hb => (hbagH.out.lt b hb).1)).setCell ⟨Pb, 2, none⟩ (fun _ => rfl) _
   . have hkn' : k = no := by omega
     subst hkn'
     have hki : ¬ (k : Int) < (k : Int) := by omega
     have ht : ops.take k = ops := List.take_of_length_le (by rw [<- hnoH.out]; exact Nat.le_refl _)
     rw [ht] at hbag
     clear ht
     obtain ⟨A', ac', hv, hOps, hA'⟩ := hbag.ops (by have := hszs.out.2.2.1; omega)
     rw [<- hnoH.out] at hv
     subst hv
     have hOH := lh hOps
     have hbagE := lh hbag
     have hTr := lh (show TxAt wr D dc deps from hTx8.out.move fun h0 a ha => hTcH.out.block a.block (by
      obtain ⟨b', o', e, hcell⟩ := str_cell hTx8.out.1 0 h0
      rw [ha] at e
      cases e
      exact World.block_lt_of_cell? w8 _ hcell) (hDbH.out a ha).1)
     have hcr := lh (show wr.cell? ⟨b, o, none⟩ = some (.bool false) /\ wr.cell? ⟨b, o + 1, none⟩ = some (.string ⟨#[116, 97, 109, 98, 111, 117, 114]⟩) /\ wr.cell? ⟨b, o + 2, none⟩ = some (.slice At 0 ct) by
      have hh : wr.heap[b]? = w8.heap[b]? := hTcH.out.block b (World.block_lt_of_cell? w8 _ ht8.out.1) (by have := hboH.out; have := hsz38.out; have := hPb6H.out; show ¬ b = Pb; omega)
      exact ⟨(World.cell?_of_block hh).trans ht8.out.1, (World.cell?_of_block hh).trans ht8.out.2.1, (World.cell?_of_block hh).trans ht8.out.2.2⟩)
     obtain ⟨P0, P1, P2, _, _⟩ := blk3' hPbrH.out
     obtain ⟨t0, t1, t2⟩ := hcr.out
     obtain ⟨r0, _, _⟩ := rd1 hrdr.out
     clear hbag hOps hTc hPbr
     go_upto_region 14 with fail
     go_wp2_with fail
     refine (text_ok (Fb + 1) _ At 0 ct _ hrdr.out).mono ?_
     rintro ev W4 ⟨rfl, hb4⟩
     have y4 := lh hb4
     clear hb4 P0 P1 P2 t0 t1 t2 r0
     obtain ⟨r0, _, _⟩ := rd1 (hrdr.out.below y4.out)
     obtain ⟨P0, P1, P2, _, _⟩ := blk3' ((y4.out.block _ hPlt.out).trans hPbrH.out)
     have yw4 := lh (hbw.out.trans (y4.out.mono hbw.out.size))
     have CR := lh (show Calls Tryz.prog 19 #[.agg #[.string note, .slice D nd dc, .slice A' k ac']] W4 fun e w' => e = .returned (.bool true) /\ Below W4.heap.size W4 w' by
      have := pright_c note D dc deps A' ac' ops W4 (hTr.out.below y4.out) (hOH.out.below y4.out) (htabH.out.keep yw4.out hgBH.out) (Nat.lt_of_lt_of_le hgBH.out yw4.out.size)
      rw [hpH.out, <- hndH.out, <- hnoH.out] at this
      exact this)
     go_wp2_with fail
     refine (CR.out).mono ?_
     rintro ev W5 ⟨rfl, hb5⟩
     have y5 := lh (y4.out.trans (hb5.mono y4.out.size))
     have hP5 := lh ((y5.out.block _ hPlt.out).trans hPbrH.out)
     have hr9 := lh (show W5.heap[R]? = some (.cells #[.string ⟨#[]⟩, .slice none 0 0, .slice none 0 0] 25 (0, 0)) by
      have hRl := heap_lt hr6.out
      have h1 : wr.heap[R]? = w6.heap[R]? := (hTcH.out.block R (by have := hsz38.out; omega) (by have := hPb6H.out; show ¬ R = Pb; omega)).trans (hb68.out.block R hRl)
      exact (y5.out.block R (by have := hTcH.out.size; have := hsz38.out; omega)).trans (h1.trans hr6.out))
     clear hb5 P0 P1 P2 r0 CR
     obtain ⟨P0, P1, P2, _, _⟩ := blk3' hP5.out
     obtain ⟨R0, R1, R2, Rsh, Rfz⟩ := blk3' hr9.out
     have yw5 := lh (hbw.out.trans (y5.out.mono hbw.out.size))
     have hRw := lh (show w.heap.size <= R by rw [hR.out]; exact Nat.le_refl _)
     have hRD := lh (show ∀ a, D = some a -> a.block ≠ R from fun a ha => by have := (hDbH.out a ha).2; have := heap_lt hr6.out; omega)
     have hRA := lh (show ∀ a, A' = some a -> a.block ≠ R from fun a ha => by have := hA' a ha; have := heap_lt hr6.out; have := hsz38.out; omega)
     go_wp2_with fail
     (try simp only [Exit.inBlock, Exit.then])
     refine bodyPost_ret (Go.Proofs.YtbiioaggilaebaaGreatDoor.Tm.results_cell_tmp rfl _ _ R 25 #[.string note, .slice D nd dc, .slice A' k ac'] (0, 0) _ rfl (set3 hr9.out) Tryz.underlying25 rfl (by kernel_rfl) _ rfl) rfl ?_
     refine ⟨D, dc, A', ac', by rw [<- hndH.out, <- hnoH.out]; rfl, ?_, ?_, ?_⟩
     . exact (hTr.out.below y5.out).move fun _ a ha => set3_ne (hRD.out a ha) _ _ _
     . obtain ⟨A2, c2, e2, h2, _⟩ := (((hbagE.out.below y5.out).keep (w' := (((W5.setCell ⟨R, 0, none⟩ (.string note)).setCell ⟨R, 1, none⟩ (.slice D nd dc)).setCell ⟨R, 2, none⟩ (.slice A' k ac'))) (fun b h1 _ => set3_ne (by have := heap_lt hr6.out; have := hsz38.out; omega) _ _ _) (by rw [size_set, size_set, size_set]; exact Nat.le_refl _)).ops (by have := hszs.out.2.2.1; omega))
       rw [<- hnoH.out] at e2
       cases e2
       exact h2
     . exact ((yw5.out.setCell hRw.out _).setCell hRw.out _).setCell hRw.out _
end Go.Proofs.YtbiioaggilaebaaGreatDoor.Pa
namespace Go.Proofs.YtbiioaggilaebaaGreatDoor.Pa
open Go Go.RowKit YtbiioaggilaebaaGreatDoorW.PrintWords B Tm Wi
def rtn (deps qd : List ByteArray) (own t : Int) : Int := if 0 <= t then place qd (deps.getD t.toNat ByteArray.empty) else if t = -2 then own else t
theorem rturn_c (t n own : Int) (D : Option Addr) (dc : Nat) (deps : List ByteArray) (E : Option Addr) (ec : Nat) (qd : List ByteArray) (w : World) (hD : TxAt w D dc deps) (hE : TxAt w E ec qd) (ht : t < deps.length) :
 Calls Tryz.prog 69 #[.agg #[.int .i64 t, .int .i64 n], .slice D deps.length dc, .slice E qd.length ec, .int .i64 own] w fun e w' => e = .returned (.agg #[.int .i64 (rtn deps qd own t), .int .i64 n]) /\ Below w.heap.size w w' := by
 obtain ⟨g, hg⟩ : ∃ g, g = w.heap.size := ⟨_, rfl⟩
 obtain ⟨w1, hw1⟩ : ∃ w1, w1 = w.alloc (.cells #[.int .i64 t, .int .i64 n] 36) := ⟨_, rfl⟩
 obtain ⟨w2, hw2⟩ : ∃ w2, w2 = w1.alloc (.cells #[.int .i64 0, .int .i64 0] 36) := ⟨_, rfl⟩
 have hs1 : w1.heap.size = g + 1 := by rw [hw1, hg]; simp
 have hf2 := lh (show w2.heap[g]? = some (.cells #[.int .i64 t, .int .i64 n] 36 (0, 0)) by rw [hw2, heap_alloc_lt _ _ _ (by omega), hw1, hg]; exact heap_alloc_at _ _)
 have hR2 := lh (show w2.heap[g + 1]? = some (.cells #[.int .i64 0, .int .i64 0] 36 (0, 0)) by rw [hw2, <- hs1]; exact heap_alloc_at _ _)
 have hb2 := lh (show Below w.heap.size w w2 by rw [hw2, hw1]; exact ((Below.refl _ _).alloc (Nat.le_refl _) _).alloc (by simp) _)
 have hgw := lh (show w.heap.size <= g + 1 by omega)
 have CP := lh (fun (W : World) (h : Below w2.heap.size w2 W) s => place_c E ec qd s W ((hE.below hb2.out).below h))
 have hD2 := hD.below hb2.out
 obtain ⟨nd, hnd⟩ : ∃ nd, nd = deps.length := ⟨_, rfl⟩
 obtain ⟨ne, hne⟩ : ∃ ne, ne = qd.length := ⟨_, rfl⟩
 rw [<- hne] at CP
 rw [<- hnd] at ht
 rw [<- hnd, <- hne]
 have hndH := lh hnd
 obtain ⟨p0, p1, _, _⟩ := two_facts hf2.out
 clear hD hE hnd hne
 by_cases h0 : 0 <= t
 . obtain ⟨k, rfl⟩ : ∃ k : Nat, t = k := ⟨t.toNat, by omega⟩
   have hkn : k < nd := by omega
   have hki : (k : Int) < (nd : Int) := by omega
   obtain ⟨d, hd⟩ : ∃ d, d = deps.getD k ByteArray.empty := ⟨_, rfl⟩
   have htn := lh (show rtn deps qd own (k : Int) = place qd d by unfold rtn; rw [if_pos h0, hd]; rfl)
   obtain ⟨Db, Do, rfl, hcell⟩ := str_cell hD2.1 k (by rw [<- hndH.out]; exact hkn)
   rw [<- hd] at hcell
   replace hd := lh hd
   rw [htn.out]
   obtain ⟨S, hS⟩ : ∃ S : World -> Prop, S = fun W => Below w2.heap.size w2 W := ⟨_, rfl⟩
   have hSi : ∀ W, S W ↔ Below w2.heap.size w2 W := fun W => by rw [hS]
   have s0 : ∀ X : InS S, X.val.cell? ⟨g, 0, none⟩ = some (.int .i64 k) := fun X => keepc ((hSi X.val).1 X.mem) p0
   have s1 : ∀ X : InS S, X.val.cell? ⟨g, 1, none⟩ = some (.int .i64 n) := fun X => keepc ((hSi X.val).1 X.mem) p1
   have s2 : ∀ X : InS S, X.val.cell? ⟨Db, Do + k, none⟩ = some (.string d) := fun X => keepc ((hSi X.val).1 X.mem) hcell
   have hSiH := lh hSi
   have hS0 := lh (show S w2.drew from (hSi _).2 (Below.refl _ _).drew)
   have hNe : Nonempty (InS S) := ⟨⟨w2.drew, hS0.out⟩⟩
   clear hS hSi hcell hD2
   go_enter Tryz.func69, Tryz.ntmps69
   go_upto_region 1 with fail
   rw [<- hw1, <- hg]
   try rw [hs1]
   rw [<- hw2]
   replace hw1 := lh hw1
   replace hw2 := lh hw2
   replace hg := lh hg
   replace hs1 := lh hs1
   go_upto_region 2 with fail
   clear p0 p1
   refine wp_region_mix S [0, 1, 2, 3, 4, 5, 7, 8] [.mem [0, 1, 2, 3, 4, 5, 7, 8], .keep 6, .pure [9], .last 10] (by kernel_rfl) (by kernel_rfl) hS0.out ?_
   simp only [pick, List.getD_cons_zero, List.getD_cons_succ, wpMix]
   repeat (go_big_quiet_step (fail))
   refine wpQuiet_nil ?_
   clear s0 s1 s2
   have yd := lh (show Below w2.heap.size w2 w2.drew from (Below.refl _ _).drew)
   go_wp2_with (go_at_call 28; (with_reducible refine (CP.out _ yd.out d).mono ?_); rintro ev w5 ⟨rfl, hb5⟩)
   have y5 := lh (yd.out.trans (hb5.mono yd.out.size))
   clear hb5
   refine ⟨(hSiH.out _).2 y5.out, ?_⟩
   have hR5 := lh ((y5.out.block _ (heap_lt hR2.out)).trans hR2.out)
   repeat (go_big_quiet_step (fail))
   refine wpQuiet_nil ?_
   obtain ⟨e0, e1, esh, efz⟩ := two_facts hR5.out
   go_wp2_with fail
   simp only [stepPost]
   go_wp2_with fail
   (try simp only [Exit.inBlock, Exit.then])
   refine bodyPost_ret (results_cell_row rfl _ _ (g + 1) 36 #[.int .i64 (place qd d), .int .i64 n] (0, 0) _ rfl (set2 hR5.out) Tryz.underlying36 rfl (by kernel_rfl)) rfl ?_
   exact ⟨rfl, ((hb2.out.trans (y5.out.mono hb2.out.size)).setCell hgw.out _).setCell hgw.out _⟩
 . obtain ⟨e0, e1, esh, efz⟩ := two_facts hR2.out
   by_cases h2 : t = -2
   . subst h2
     have htn := lh (show rtn deps qd own (-2) = own by unfold rtn; rw [if_neg h0, if_pos rfl])
     rw [htn.out]
     clear h0 hD2
     go_enter Tryz.func69, Tryz.ntmps69
     go_upto_region 1 with fail
     rw [<- hw1, <- hg]
     try rw [hs1]
     rw [<- hw2]
     replace hw1 := lh hw1
     replace hw2 := lh hw2
     replace hg := lh hg
     replace hs1 := lh hs1
     go_wp2_with fail
     (try simp only [Exit.inBlock, Exit.then])
     refine bodyPost_ret (results_cell_row rfl _ _ (g + 1) 36 #[.int .i64 own, .int .i64 n] (0, 0) _ rfl (set2 hR2.out) Tryz.underlying36 rfl (by kernel_rfl)) rfl ?_
     exact ⟨rfl, (hb2.out.setCell hgw.out _).setCell hgw.out _⟩
   . have htn := lh (show rtn deps qd own t = t by unfold rtn; rw [if_neg h0, if_neg h2])
     rw [htn.out]
     have hd2 : (t == -2) = false := by simpa using h2
     clear hD2
     go_enter Tryz.func69, Tryz.ntmps69
     go_upto_region 1 with fail
     rw [<- hw1, <- hg]
     try rw [hs1]
     rw [<- hw2]
     replace hw1 := lh hw1
     replace hw2 := lh hw2
     replace hg := lh hg
     replace hs1 := lh hs1
     go_wp2_with fail
     (try simp only [Exit.inBlock, Exit.then])
     refine bodyPost_ret (results_cell_row rfl _ _ (g + 1) 36 #[.int .i64 t, .int .i64 n] (0, 0) _ rfl (set2 hR2.out) Tryz.underlying36 rfl (by kernel_rfl)) rfl ?_
     exact ⟨rfl, (hb2.out.setCell hgw.out _).setCell hgw.out _⟩
end Go.Proofs.YtbiioaggilaebaaGreatDoor.Pa
namespace Go.Proofs.YtbiioaggilaebaaGreatDoor.Pa
open Go Go.RowKit YtbiioaggilaebaaGreatDoorW.PrintWords B Tm Wi
theorem placeq_c (q : Nat) (D : Option Addr) (dc : Nat) (deps : List ByteArray) (s : ByteArray) (w : World) (hQ : QAt w q (.slice D deps.length dc)) (hT : TxAt w D dc deps) :
 Calls Tryz.prog 34 #[.string s, .pointer (some ⟨q, 0, none⟩)] w fun e w' => e = .returned (.int .i64 (place deps s)) /\ Below w.heap.size w w' := by
 have C := lh (index_c D dc deps s w hT)
 obtain ⟨nd, hnd⟩ : ∃ nd, nd = deps.length := ⟨_, rfl⟩
 rw [<- hnd] at hQ
 obtain ⟨q0, q1, q2, _, _⟩ := blk3' hQ
 have C2 := lh (show Calls Tryz.prog 35 #[.slice D nd dc, .string s] w fun e w' => e = .returned (.int .i64 (place deps s)) /\ Below w.heap.size w w' by rw [hnd]; exact C.out)
 clear C hQ hT hnd
 go_enter Tryz.func34, Tryz.ntmps34
 go_wp2_with fail
 refine (C2.out).mono ?_
 rintro e w' ⟨rfl, hb⟩
 replace hb := lh hb
 go_wp2_with fail
 go_ret
 exact ⟨rfl, hb.out⟩
def SetAt (cur cur' : Array Value) (i : Nat) (v : Value) : Prop := cur'.size = cur.size /\ cur'[i]? = some v /\ ∀ j, j ≠ i -> cur'[j]? = cur[j]?
theorem setAt_set {cur : Array Value} {i : Nat} {u v : Value} (h : cur[i]? = some u) : SetAt cur (cur.setIfInBounds i v) i v := by
 have hi := (Array.getElem?_eq_some_iff.1 h).1
 refine ⟨by simp, by simp [hi], fun j hj => ?_⟩
 rw [Array.getElem?_setIfInBounds]
 rw [if_neg (fun e => hj e.symm)]
theorem setAt_self {cur : Array Value} {i : Nat} {v : Value} (h : cur[i]? = some v) : SetAt cur cur i v := ⟨rfl, h, fun _ _ => rfl⟩
def tn (deps qd : List ByteArray) (name : ByteArray) (a : Int) : Int := if 0 <= a then place qd (deps.getD a.toNat ByteArray.empty) else if a = -2 then place qd name else a
def Turned (rb ri : Nat) (cur : Array Value) (x : Int) (w : World) (e : Ending) (w' : World) : Prop :=
 e = .returned (.tuple #[]) /\ ∃ cur', w'.heap[rb]? = some (.cells cur' 38 (0, 0)) /\ SetAt cur cur' ri (.int .i64 x) /\ Tch (fun b => b = rb) w w'
theorem turned_end {rb ri : Nat} {cur : Array Value} {x : Int} {u : Value} {w W : World} (hcur : cur[ri]? = some u) (hW : W.heap[rb]? = some (.cells cur 38 (0, 0))) (hT : Tch (fun b => b = rb) w W) :
 Turned rb ri cur x w (.returned (.tuple #[])) (W.setCell ⟨rb, ri, none⟩ (.int .i64 x)) :=
 ⟨rfl, _, heap_set _ _ _ _ _ _ _ hW, setAt_set hcur, hT.setCell ⟨rb, ri, none⟩ (fun _ => rfl) _⟩
theorem turn_c (rb ri q g nb pb : Nat) (a : Int) (name note : ByteArray) (D : Option Addr) (dc : Nat) (deps : List ByteArray) (A : Option Addr) (no ac : Nat) (E : Option Addr) (ec : Nat) (qd : List ByteArray) (cur : Array Value) (w : World)
 (hcur : cur[ri]? = some (.int .i64 a)) (hr : w.heap[rb]? = some (.cells cur 38 (0, 0))) (ha : a < deps.length) (hQ : QAt w q (.slice E qd.length ec)) (hP : PatAt w g note D deps.length dc A no ac)
 (hT : TxAt w D dc deps) (hE : TxAt w E ec qd) (hN : w.cell? ⟨nb, 0, none⟩ = some (.string name)) (hpb : w.cell? ⟨pb, 0, none⟩ = some (.func (.func 34) #[] #[.pointer (some ⟨q, 0, none⟩)])) :
 Calls Tryz.prog 36 #[.pointer (some ⟨rb, ri, none⟩), .pointer (some ⟨pb, 0, none⟩), .pointer (some ⟨g, 0, none⟩), .pointer (some ⟨nb, 0, none⟩)] w (Turned rb ri cur (tn deps qd name a) w) := by
 obtain ⟨nd, hnd⟩ : ∃ nd, nd = deps.length := ⟨_, rfl⟩
 rw [<- hnd] at ha hP
 have hPH := lh hP
 have hndH := lh hnd
 have hrc : w.cell? ⟨rb, ri, none⟩ = some (.int .i64 a) := by rw [cell_of hr]; exact hcur
 have hrf : w.frozen? ⟨rb, ri, none⟩ = false := blk_frozen hr ri
 have hrH := lh hr
 have hcurH := lh hcur
 have CP := lh (fun W (h : Below w.heap.size w W) s => placeq_c q E ec qd s W ((h.block _ (heap_lt hQ)).trans hQ) (hE.below h))
 by_cases h0 : 0 <= a
 . obtain ⟨k, rfl⟩ : ∃ k : Nat, a = k := ⟨a.toNat, by omega⟩
   have hkn : k < nd := by omega
   have hki : (k : Int) < (nd : Int) := by omega
   obtain ⟨d, hd⟩ : ∃ d, d = deps.getD k ByteArray.empty := ⟨_, rfl⟩
   have htn := lh (show tn deps qd name (k : Int) = place qd d by unfold tn; rw [if_pos h0, hd]; rfl)
   obtain ⟨Db, Do, rfl, hcell⟩ := str_cell hT.1 k (by rw [<- hndH.out]; exact hkn)
   rw [<- hd] at hcell
   replace hd := lh hd
   rw [htn.out]
   obtain ⟨p0, p1, p2, _, _⟩ := blk3' hPH.out
   obtain ⟨S, hS⟩ : ∃ S : World -> Prop, S = fun W => Below w.heap.size w W := ⟨_, rfl⟩
   have hSi : ∀ W, S W ↔ Below w.heap.size w W := fun W => by rw [hS]
   have s0 : ∀ X : InS S, X.val.cell? ⟨pb, 0, none⟩ = some (.func (.func 34) #[] #[.pointer (some ⟨q, 0, none⟩)]) := fun X => keepc ((hSi X.val).1 X.mem) hpb
   have s1 : ∀ X : InS S, X.val.cell? ⟨g, 1, none⟩ = some (.slice (some ⟨Db, Do, none⟩) nd dc) := fun X => keepc ((hSi X.val).1 X.mem) p1
   have s2 : ∀ X : InS S, X.val.cell? ⟨rb, ri, none⟩ = some (.int .i64 k) := fun X => keepc ((hSi X.val).1 X.mem) hrc
   have s3 : ∀ X : InS S, X.val.cell? ⟨Db, Do + k, none⟩ = some (.string d) := fun X => keepc ((hSi X.val).1 X.mem) hcell
   have hSiH := lh hSi
   have hS0 := lh (show S w.drew from (hSi _).2 (Below.refl _ _).drew)
   have hne : Nonempty (InS S) := ⟨⟨w.drew, hS0.out⟩⟩
   clear hS hSi hQ hP hT hE hnd hcell p0 p1 p2 hN hpb hcur hr
   go_enter Tryz.func36, Tryz.ntmps36
   go_upto_region 1 with fail
   clear hrc hrf
   refine wp_region_mix S [0, 1, 2, 3, 4, 5, 6, 7, 8, 9] [.mem [0, 1, 2, 3, 4, 5, 6, 7, 8, 9], .keep 10, .pure [11, 12], .last 13] (by kernel_rfl) (by kernel_rfl) hS0.out ?_
   simp only [pick, List.getD_cons_zero, List.getD_cons_succ, wpMix]
   repeat (go_big_quiet_step (fail))
   refine wpQuiet_nil ?_
   clear s0 s1 s2 s3
   have yd := lh (show Below w.heap.size w w.drew from (Below.refl _ _).drew)
   go_wp2_with (go_at_call 34; (with_reducible refine (CP.out _ yd.out d).mono ?_); rintro ev w5 ⟨rfl, hb5⟩)
   have y5 := lh (yd.out.trans (hb5.mono yd.out.size))
   clear hb5
   refine ⟨(hSiH.out _).2 y5.out, ?_⟩
   have hr5 := lh ((y5.out.block _ (heap_lt hrH.out)).trans hrH.out)
   have hrc5 : w5.cell? ⟨rb, ri, none⟩ = some (.int .i64 k) := by rw [cell_of hr5.out]; exact hcurH.out
   have hrf5 : w5.frozen? ⟨rb, ri, none⟩ = false := blk_frozen hr5.out ri
   repeat (go_big_quiet_step (fail))
   refine wpQuiet_nil ?_
   go_wp2_with fail
   simp only [stepPost]
   go_wp2_with fail
   go_end0
   exact turned_end hcurH.out hr5.out (Tch.of_new y5.out)
 . by_cases h2 : a = -2
   . subst h2
     have htn := lh (show tn deps qd name (-2) = place qd name by unfold tn; rw [if_neg h0, if_pos rfl])
     rw [htn.out]
     clear hQ hP hT hE hnd hcur hr h0
     go_enter Tryz.func36, Tryz.ntmps36
     go_wp2_with fail
     refine (CP.out _ (Below.refl _ _) name).mono ?_
     rintro ev w5 ⟨rfl, hb5⟩
     have y5 := lh hb5
     clear hb5 hrc hrf hN hpb
     have hr5 := lh ((y5.out.block _ (heap_lt hrH.out)).trans hrH.out)
     have hrc5 : w5.cell? ⟨rb, ri, none⟩ = some (.int .i64 (-2)) := by rw [cell_of hr5.out]; exact hcurH.out
     have hrf5 : w5.frozen? ⟨rb, ri, none⟩ = false := blk_frozen hr5.out ri
     go_wp2_with fail
     go_end0
     exact turned_end hcurH.out hr5.out (Tch.of_new y5.out)
   . have htn := lh (show tn deps qd name a = a by unfold tn; rw [if_neg h0, if_neg h2])
     rw [htn.out]
     have hd2 : (a == -2) = false := by simpa using h2
     clear hQ hP hT hE hnd hcur hr
     go_enter Tryz.func36, Tryz.ntmps36
     go_wp2_with fail
     go_end0
     exact ⟨rfl, cur, hrH.out, setAt_self hcurH.out, Tch.refl _ _⟩
end Go.Proofs.YtbiioaggilaebaaGreatDoor.Pa
