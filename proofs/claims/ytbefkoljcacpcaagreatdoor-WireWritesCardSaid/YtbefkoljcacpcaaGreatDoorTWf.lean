/- What LawWireReads, LawWireWrites, LawWireSpoilt lean on, part f of 15: the texts DigR, WiA, WiR, Lat, WiD, TmL, TmG. -/
import Derived.Test.YtbefkoljcacpcaaGreatDoorTWd
import Derived.Test.YtbefkoljcacpcaaGreatDoorTWe
import Derived.Shelf.Strings.SlTrimAscii
import Derived.StillTailTactics
import Derived.IntWalk
import Derived.Deep.RegionHeld3
import Derived.Deep.LoopGhost
import Derived.Lib.QuoteBits
import Derived.Laws.Cover1
set_option linter.unusedVariables false
set_option linter.unusedSimpArgs false
namespace Go.Proofs.YtbefkoljcacpcaaGreatDoor.Dig
open Go Go.RowKit Go.Proofs.YtbefkoljcacpcaaGreatDoor.B Go.Proofs.YtbefkoljcacpcaaGreatDoor.Sha
open Go.Proofs.YtbefkoljcacpcaaGreatDoor.Lin (bs bs_data bs_of bs_size size_list)
def digs : List UInt8 := [48, 49, 50, 51, 52, 53, 54, 55, 56, 57, 97, 98, 99, 100, 101, 102]
theorem digs_dv (c : UInt8) : digs.contains c = (dv c).isSome := by
  have : ∀ n : Fin 256, digs.contains (UInt8.ofFin n) = (dv (UInt8.ofFin n)).isSome := by decide +kernel
  exact this c.toFin
theorem digs_index (c : UInt8) (n : Nat) (h : dv c = some n) : Lib.indexByte digs c = (n : Int) := by
  have : ∀ n : Fin 256, (match dv (UInt8.ofFin n) with | some k => Lib.indexByte digs (UInt8.ofFin n) == (k : Int) | none => true) = true := by decide +kernel
  have h2 := this c.toFin
  rw [show UInt8.ofFin c.toFin = c from rfl, h] at h2
  exact beq_iff_eq.1 h2
theorem dropWhile_all {α : Type} (p : α → Bool) : ∀ l : List α, l.dropWhile p = [] ↔ l.all p = true
  | [] => by simp
  | a :: l => by
    rw [List.dropWhile_cons, List.all_cons]
    cases h : p a with
    | true => simpa using dropWhile_all p l
    | false => simp
theorem all_reverse' (p : UInt8 → Bool) (l : List UInt8) : l.reverse.all p = l.all p := by
  rw [Bool.eq_iff_iff, List.all_eq_true, List.all_eq_true]
  simp
theorem trim_empty (l : List UInt8) : Lib.trimS l digs = [] ↔ allD l = true := by
  have e : allD l = l.all (digs.contains ·) := by
    unfold allD
    congr 1
    funext c
    exact (digs_dv c).symm
  rw [e]
  unfold Lib.trimS Lib.trimLeftS Lib.trimRightS
  rw [dropWhile_all, all_reverse']
  constructor
  · intro h
    by_cases ha : l.all (digs.contains ·) = true
    · exact ha
    · -- the last one that is none stays
      exfalso
      rw [← all_reverse'] at ha
      have hne : l.reverse.dropWhile (digs.contains ·) ≠ [] := fun h0 => ha ((dropWhile_all _ _).1 h0)
      obtain ⟨x, r, hx⟩ := List.exists_cons_of_ne_nil hne
      have hp : digs.contains x = false := by
        have := List.head?_dropWhile_not (digs.contains ·) l.reverse
        rw [hx] at this
        exact this
      rw [hx, List.all_cons, hp] at h
      simp at h
  · intro h
    rw [← all_reverse', ← dropWhile_all] at h
    rw [h]; rfl
def rawE (r : Option (List UInt8)) : Value := match r with
  | some _ => .nilIface
  | none => .iface 48 (.int .i64 4)
def RawPost (l : List UInt8) (w : World) (e : Ending) (w' : World) : Prop := e = .returned (.tuple #[.string (rawR l).1, rawE (rawL l)]) ∧ Below w.heap.size w w'
theorem rawPost_none {l : List UInt8} {w w' : World} (h : rawL l = none) (hb : Below w.heap.size w w') : RawPost l w (.returned (.tuple #[.string ⟨#[]⟩, .iface 48 (.int .i64 4)])) w' := by
  unfold RawPost rawR rawE; rw [h]; exact ⟨rfl, hb⟩
theorem rawPost_some {l r : List UInt8} {w w' : World} (h : rawL l = some r) (hb : Below w.heap.size w w') : RawPost l w (.returned (.tuple #[.string (bs r), .nilIface])) w' := by
  unfold RawPost rawR rawE; rw [h]; exact ⟨rfl, hb⟩
theorem trim_any (s : ByteArray) (hs : s.size ≤ 140737488351232) (w : World) :
    Calls Tryz.prog 88 #[.string s, .string ⟨#[48, 49, 50, 51, 52, 53, 54, 55, 56, 57, 97, 98, 99, 100, 101, 102]⟩] w fun e w' => e = .returned (.string (bs (Lib.trimS s.data.toList digs))) ∧ Below w.heap.size w w' :=
  Any.strings_Trim_laid Tryz.lays160 (by kernel_rfl) s ⟨#[48, 49, 50, 51, 52, 53, 54, 55, 56, 57, 97, 98, 99, 100, 101, 102]⟩ w (by omega) (by decide) (ascii_of_all (by decide))
theorem raw_odd (s : ByteArray) (hs : s.size ≤ 140737488351232) (w : World) (h : ¬ s.size % 2 = 0) : Calls Tryz.prog 75 #[.string s] w (RawPost s.data.toList w) := by
  have hN := Lib.hid (rawL_odd (l := s.data.toList) (by rw [size_list]; exact h))
  have hsi : (s.size : Int) ≤ 140737488351232 := by omega
  have h1 : (((s.size : Int) % 2) != 0) = true := by rw [bne_iff_ne]; omega
  clear h
  go_enter Tryz.func75, Tryz.ntmps75
  go_wp2_with fail
  go_ret2
  exact rawPost_none hN.out (Below.refl _ _)
theorem raw_notD (s : ByteArray) (hs : s.size ≤ 140737488351232) (w : World) (h : s.size % 2 = 0) (hd : allD s.data.toList = false) : Calls Tryz.prog 75 #[.string s] w (RawPost s.data.toList w) := by
  have hN := Lib.hid (rawL_notD hd)
  have hsi : (s.size : Int) ≤ 140737488351232 := by omega
  have h1 : (((s.size : Int) % 2) != 0) = false := by rw [bne_eq_false_iff_eq]; omega
  have C := trim_any s hs w
  have hne : Lib.trimS s.data.toList digs ≠ [] := fun e => by rw [(trim_empty _).1 e] at hd; cases hd
  obtain ⟨x, r, hx⟩ := List.exists_cons_of_ne_nil hne
  have hz : (bs (Lib.trimS s.data.toList digs)).toList = x :: r := by rw [ByteArray.toList_eq, bs_data, hx]
  generalize bs (Lib.trimS s.data.toList digs) = t at *
  have hz1 : t.toList.isEmpty = false := by rw [hz]; rfl
  have hz2 : ¬ t.toList = [] := by rw [hz]; simp
  have CH := Lib.hid C
  clear C hne hx hd h hz
  go_enter Tryz.func75, Tryz.ntmps75
  go_wp2_with fail
  refine (CH.out).mono ?_
  rintro e w1 ⟨rfl, hb⟩
  replace hb := Lib.hid hb
  go_wp2_with fail
  go_ret2
  exact rawPost_none hN.out hb.out
theorem index_dig (a : UInt8) (x : Nat) (h : dv a = some x) (W : World) :
    Calls Tryz.prog 89 #[.string ⟨#[48, 49, 50, 51, 52, 53, 54, 55, 56, 57, 97, 98, 99, 100, 101, 102]⟩, .int .u8 (a.toNat : Int)] W fun e w' => e = .returned (.int .i64 (x : Int)) ∧ W = w' := by
  have := Tryz.strings_IndexByte ⟨#[48, 49, 50, 51, 52, 53, 54, 55, 56, 57, 97, 98, 99, 100, 101, 102]⟩ (a.toNat : Int) W
  rw [show ((a.toNat : Int)).toNat.toUInt8 = a from by simp, show (⟨#[48, 49, 50, 51, 52, 53, 54, 55, 56, 57, 97, 98, 99, 100, 101, 102]⟩ : ByteArray).data.toList = digs from rfl, digs_index a x h] at this
  exact this.mono fun e w' ⟨h1, h2⟩ => ⟨h1, h2.symm⟩
theorem byte_val {x y : Nat} (hx : x < 16) (hy : y < 16) : IntKind.u8.wrap (bits .or .i64 (IntKind.i64.wrap ((x : Int) * 16)) (y : Int)) = (((UInt8.ofNat (16 * x + y)).toNat : Nat) : Int) := by
  have : ∀ x y : Fin 16, IntKind.u8.wrap (bits .or .i64 (IntKind.i64.wrap ((x.val : Int) * 16)) (y.val : Int)) = (((UInt8.ofNat (16 * x.val + y.val)).toNat : Nat) : Int) := by decide +kernel
  exact this ⟨x, hx⟩ ⟨y, hy⟩
theorem rawL_at : ∀ (l r : List UInt8), rawL l = some r → ∀ j, j < r.length → ∃ x y, dv (l.getD (2 * j) 0) = some x ∧ dv (l.getD (2 * j + 1) 0) = some y ∧ r.getD j 0 = UInt8.ofNat (16 * x + y)
  | [], r, h, j, hj => by cases h; simp at hj
  | [_], r, h, j, hj => by cases h
  | a :: b :: l, r, h, j, hj => by
    rw [rawL_two] at h
    split at h
    · rename_i c r' h1 h2
      cases h
      cases j with
      | zero =>
        unfold pair at h1
        split at h1
        · rename_i x y hx hy
          exact ⟨x, y, hx, hy, (Option.some.inj h1).symm⟩
        · cases h1
      | succ j =>
        obtain ⟨x, y, h3, h4, h5⟩ := rawL_at l r' h2 j (by simpa using hj)
        refine ⟨x, y, ?_, ?_, ?_⟩
        · rw [show 2 * (j + 1) = 2 * j + 1 + 1 from by omega]; simpa using h3
        · rw [show 2 * (j + 1) + 1 = 2 * j + 1 + 1 + 1 from by omega]; simpa using h4
        · simpa using h5
    · cases h
set_option maxRecDepth 100000 in
set_option maxHeartbeats 2000000 in
theorem raw_good (s : ByteArray) (hs : s.size ≤ 140737488351232) (w : World) (h : s.size % 2 = 0) (hd : allD s.data.toList = true) : Calls Tryz.prog 75 #[.string s] w (RawPost s.data.toList w) := by
  obtain ⟨r, hr⟩ := rawL_some hd (by rw [size_list]; exact h)
  have hN := Lib.hid hr
  have hlen : s.size = 2 * r.length := by have := rawL_len _ _ hr; rwa [size_list] at this
  have hat := Lib.hid (rawL_at _ _ hr)
  have hsi : (s.size : Int) ≤ 140737488351232 := by omega
  have h1 : (((s.size : Int) % 2) != 0) = false := by rw [bne_eq_false_iff_eq]; omega
  have C := trim_any s hs w
  rw [(trim_empty _).2 hd] at C
  have CH := Lib.hid C
  obtain ⟨m, hm⟩ : ∃ m, m = r.length := ⟨_, rfl⟩
  rw [← hm] at hlen
  replace hm := Lib.hid hm
  have hmm : m ≤ 70368744175616 := by omega
  have hsm : (s.size : Int) = 2 * (m : Int) := by omega
  replace hsm := Lib.hid hsm
  replace hlen := Lib.hid hlen
  obtain ⟨i8, hi8, hz8, hs8, hb8⟩ := info8
  clear C hr hd h
  go_enter Tryz.func75, Tryz.ntmps75
  go_wp2_with fail
  refine (CH.out).mono ?_
  rintro e w1 ⟨rfl, hb⟩
  replace hb := Lib.hid hb
  have hown0 := Lib.hid (own_nil w1 w1.heap.size)
  rw [show bs [] = ⟨#[]⟩ from rfl]
  go_wp2_with fail
  go_loopg [4, 5] m (fun g v i W => ∃ j p : Nat, g = m - j ∧ j ≤ m ∧ p = 2 * j ∧ i = .int .i64 p ∧ W.ownsRow w1.heap.size 5 1 v j (bc (r.take j)) ∧ Tch (fun _ => False) w1 W)
  case atStart => exact ⟨0, 0, rfl, by omega, rfl, rfl, hown0.out, Tch.refl _ _⟩
  case round =>
    clear hown0
    obtain ⟨j, p, hgj, hj, hp, rfl, ho, ht⟩ := hrel
    subst hgj
    replace hp := Lib.hid hp
    by_cases hjl : j < m
    · have hji : (p : Int) < (s.size : Int) := by have := hsm.out; have := hp.out; omega
      have hji1 : (p : Int) + 1 < (s.size : Int) := by have := hsm.out; have := hp.out; omega
      have hix := fun (W : World) => str_idx (P := Tryz.prog) Tryz.underlying9 s p (by omega) W
      have hix1 := fun (W : World) => str_idx (P := Tryz.prog) Tryz.underlying9 s (p + 1) (by omega) W
      rw [show ((p + 1 : Nat) : Int) = (p : Int) + 1 from by omega] at hix1
      obtain ⟨x, y, hx, hy, hxy⟩ := hat.out j (by rw [← hm.out]; exact hjl)
      rw [← hp.out] at hx hy
      have hwp : IntKind.i64.wrap ((p : Int) + 1) = (p : Int) + 1 := IntWalk.i64_in _ (by omega)
      generalize s.data.toList.getD p 0 = a at *
      generalize s.data.toList.getD (p + 1) 0 = b at *
      have CA := Lib.hid (index_dig a x hx)
      have CB := Lib.hid (index_dig b y hy)
      have hx16 := dv_lt hx
      have hy16 := dv_lt hy
      have hnx : ∀ (w2 : World) (v : Value) (news : List Value), w2.ownsRow w1.heap.size 5 1 v (j + 1) (bc (r.take j) ++ news) → news = [.int .u8 (IntKind.u8.wrap (bits .or .i64 (IntKind.i64.wrap ((x : Int) * 16)) (y : Int)))] →
          w2.ownsRow w1.heap.size 5 1 v (j + 1) (bc (r.take (j + 1))) := by
        intro w2 v news h1 h2
        subst h2
        rw [byte_val hx16 hy16, ← hxy] at h1
        rw [List.take_add_one, List.getElem?_eq_getElem (by rw [← hm.out]; exact hjl), bc_append]
        rw [List.getD_eq_getElem?_getD, List.getElem?_eq_getElem (by rw [← hm.out]; exact hjl)] at h1
        exact h1
      have hfin := Lib.hid hnx
      clear hnx hx hy hxy
      have hoH := Lib.hid ho
      have htH := Lib.hid ht
      clear ho ht
      go_wp2_with fail
      go_region_held3 (fun W => True) (exact trivial)
        ((first
          | (go_at_call 89; with_reducible refine (CA.out _).mono ?_; rintro e w' ⟨rfl, rfl⟩)
          | (go_at_call 89; with_reducible refine (CB.out _).mono ?_; rintro e w' ⟨rfl, rfl⟩)
          | (refine step_append_lies _ (by rfl) _ _ _ (by rfl) w1.heap.size 5 i8 _ 1 1 Tryz.underlying30 hi8 hz8 hs8 hb8 rfl (by omega) u4 j _ (by rfl) (hoH.out.alloc _).drew ⟨wr.heap.size, 0, none⟩ 1 1 _ (by rfl) (by rfl) (World.news_of_block (heap_alloc_at wr _)) (by simp [Value.oneCell']) (by omega) (by unfold maxLen; omega) (by omega) (by have := htH.out.size; simp; omega) (wr.heap.size + 1) (by simp) ?_; intro g cap2 w2 hown1 hgrow hat2 hlt)))
      all_goals (try go_wp2_with fail)
      all_goals go_roundg (m - (j + 1))
      all_goals first | omega | exact ⟨j + 1, p + 2, rfl, by omega, by have := hp.out; omega, by go_num, hfin.out _ _ _ hown1 rfl, own_tch (htH.out.alloc _) (hoH.out.alloc _) (Nat.le_refl _) (undrew hgrow)⟩
    · have hjm : j = m := by omega
      subst hjm
      have hji : ¬ (p : Int) < (s.size : Int) := by have := hsm.out; have := hp.out; omega
      rw [List.take_of_length_le (by rw [← hm.out]; exact Nat.le_refl _)] at ho
      have hcv := own_conv _ _ _ r (by rw [← hm.out]; exact ho)
      have htH := Lib.hid ht
      clear ho ht
      generalize hout : (⟨r.toArray⟩ : ByteArray) = out at hcv
      replace hout := Lib.hid hout
      go_wp2_with fail
      go_ret2
      rw [← hout.out]
      exact rawPost_some hN.out (hb.out.trans (htH.out.below hb.out.size (fun _ h => h.elim)))
theorem raw_any (s : ByteArray) (hs : s.size ≤ 140737488351232) (w : World) : Calls Tryz.prog 75 #[.string s] w (RawPost s.data.toList w) := by
  by_cases h : s.size % 2 = 0
  · cases hd : allD s.data.toList with
    | true => exact raw_good s hs w h hd
    | false => exact raw_notD s hs w h hd
  · exact raw_odd s hs w h
def rightOf (l : List UInt8) : Bool := (rawL l).isSome && decide (((rawL l).getD []).length = 32)
theorem right_same (l : List UInt8) : rightOf l = rightL l := by
  unfold rightOf rightL
  cases h : rawL l with
  | none => simp
  | some r =>
    have := rawL_len l r h
    simp only [Option.isSome_some, Option.getD_some, Bool.true_and, Bool.and_true]
    by_cases h2 : r.length = 32
    · rw [decide_eq_true h2, decide_eq_true (by omega)]
    · rw [decide_eq_false h2, decide_eq_false (by omega)]
theorem right_any (s : ByteArray) (hs : s.size ≤ 140737488351232) (w : World) : Calls Tryz.prog 57 #[.string s] w fun e w' => e = .returned (.bool (rightL s.data.toList)) ∧ Below w.heap.size w w' := by
  rw [← right_same]
  have C := Lib.hid (raw_any s hs w)
  unfold RawPost rawR rightOf at *
  cases h : rawL s.data.toList with
  | none =>
    rw [h] at C
    unfold outR rawE at C
    clear h
    go_enter Tryz.func57, Tryz.ntmps57
    go_wp2_with fail
    refine (C.out).mono ?_
    rintro e w1 ⟨rfl, hb⟩
    replace hb := Lib.hid hb
    go_wp2_with fail
    go_ret
    exact ⟨rfl, hb.out⟩
  | some r =>
    rw [h] at C
    unfold outR rawE at C
    simp only [List.nil_append] at C
    have e : ((some r).isSome && decide (((some r).getD []).length = 32)) = decide ((bs r).size = 32) := by simp [bs_size]
    rw [e]
    clear e
    generalize bs r = t at *
    clear h
    by_cases h32 : t.size = 32
    · have q : ((t.size : Int) == 32) = true := by rw [beq_iff_eq]; omega
      rw [decide_eq_true h32]
      clear h32
      go_enter Tryz.func57, Tryz.ntmps57
      go_wp2_with fail
      refine (C.out).mono ?_
      rintro e w1 ⟨rfl, hb⟩
      replace hb := Lib.hid hb
      go_wp2_with fail
      go_ret
      exact ⟨rfl, hb.out⟩
    · have q : ((t.size : Int) == 32) = false := by rw [beq_eq_false_iff_ne]; omega
      rw [decide_eq_false h32]
      clear h32
      go_enter Tryz.func57, Tryz.ntmps57
      go_wp2_with fail
      refine (C.out).mono ?_
      rintro e w1 ⟨rfl, hb⟩
      replace hb := Lib.hid hb
      go_wp2_with fail
      go_ret
      exact ⟨rfl, hb.out⟩
end Go.Proofs.YtbefkoljcacpcaaGreatDoor.Dig
set_option linter.unusedVariables false
set_option linter.unusedSimpArgs false
namespace Go.Proofs.YtbefkoljcacpcaaGreatDoor.Wi
open Go Go.RowKit Go.Proofs.YtbefkoljcacpcaaGreatDoorW.PrintWords Go.Proofs.YtbefkoljcacpcaaGreatDoor.B Go.Proofs.YtbefkoljcacpcaaGreatDoor.Dig
theorem add_off (b o j : Nat) : (⟨b, o, none⟩ : Addr).add j = ⟨b, o + j, none⟩ := by unfold Addr.add; split <;> simp_all
theorem str_cell {w : World} {A : Option Addr} {n : Nat} {l : List ByteArray} (h : Kd.C Kd.string w A n l) (j : Nat) (hj : j < n) : ∃ b o, A = some ⟨b, o, none⟩ ∧ w.cell? ⟨b, o + j, none⟩ = some (.string (l.getD j ByteArray.empty)) := by
  obtain ⟨hl, _, hc⟩ := h
  obtain ⟨ad, hA, hq⟩ := hc (by omega)
  subst hA
  clear hc
  have cell : ∀ i, i < n → w.cell? (ad.add i) = some (.string (l.getD i ByteArray.empty)) := by
    intro i hi
    obtain ⟨c, _, hr, hcell⟩ := hq i (l.getD i ByteArray.empty) (by rw [List.getD_eq_getElem?_getD, List.getElem?_eq_getElem (by omega)]; rfl)
    have hr' : c = [.string (l.getD i ByteArray.empty)] := hr
    have := hcell 0 _ (by rw [hr']; rfl)
    rwa [Nat.add_zero, show i * Kd.sz Kd.string = i from Nat.mul_one i] at this
  have h0 := cell 0 (by omega)
  have e0 : ad.add 0 = ad := by simp [Addr.add]
  rw [e0] at h0
  have e1 : ad = ⟨ad.block, ad.off, none⟩ := by
    have := World.cell?_spot h0
    obtain ⟨b, o, s⟩ := ad
    simp only at this
    rw [this]
  refine ⟨ad.block, ad.off, by rw [← e1], ?_⟩
  have := cell j hj
  rw [e1, add_off] at this
  exact this
theorem le_lt : ∀ a b : List UInt8, (Op.bytesLess a b || a == b) = !(Op.bytesLess b a)
  | [], [] => by simp [Op.bytesLess]
  | _ :: _, [] => by simp [Op.bytesLess]
  | [], _ :: _ => by simp [Op.bytesLess]
  | a :: x, b :: y => by
    have ih := le_lt x y
    rw [Op.bytesLess, Op.bytesLess]
    by_cases h1 : a < b
    · have h2 : ¬ b < a := by rw [UInt8.lt_iff_toNat_lt] at h1 ⊢; omega
      have h3 : ¬ b = a := by rintro rfl; rw [UInt8.lt_iff_toNat_lt] at h1; omega
      have h4 : ¬ a = b := fun e => h3 e.symm
      simp [h1, h2, h3, h4]
    · by_cases h2 : b < a
      · have h3 : ¬ b = a := by rintro rfl; rw [UInt8.lt_iff_toNat_lt] at h2; omega
        have h4 : ¬ a = b := fun e => h3 e.symm
        simp [h1, h2, h3, h4]
      · have h3 : a = b := UInt8.toNat_inj.1 (by rw [UInt8.lt_iff_toNat_lt] at h1 h2; omega)
        subst h3
        simpa [h1] using ih
def okAt (l : List ByteArray) (i : Nat) : Bool := rightL (l.getD i ByteArray.empty).data.toList && (decide (i = 0) || Op.bytesLess (l.getD (i - 1) ByteArray.empty).toList (l.getD i ByteArray.empty).toList)
def namesOk (l : List ByteArray) : Bool := (List.range l.length).all (okAt l) && decide (l.length ≤ 128)
theorem namesOk_bad {l : List ByteArray} {k : Nat} (hk : k < l.length) (h : okAt l k = false) : namesOk l = false := by
  unfold namesOk
  rw [Bool.and_eq_false_iff]
  left
  rw [List.all_eq_false]
  exact ⟨k, List.mem_range.2 hk, by simp [h]⟩
theorem namesOk_good {l : List ByteArray} (h : ∀ j, j < l.length → okAt l j = true) : namesOk l = decide (l.length ≤ 128) := by
  unfold namesOk
  rw [List.all_eq_true.2 (fun j hj => h j (List.mem_range.1 hj)), Bool.true_and]
theorem getD_mem' (l : List ByteArray) (k : Nat) (d : ByteArray) (h : k < l.length) : l.getD k d ∈ l := by
  rw [List.getD_eq_getElem?_getD, List.getElem?_eq_getElem h]
  exact List.getElem_mem h
set_option maxRecDepth 100000 in
set_option maxHeartbeats 4000000 in
theorem names_c (A : Option Addr) (c : Nat) (l : List ByteArray) (w : World) (hC : Kd.C Kd.string w A l.length l) (hc : l.length ≤ c) (hn : l.length ≤ 1000000000000) (hs : ∀ x ∈ l, x.size ≤ 140737488351232) :
    Calls Tryz.prog 30 #[.slice A l.length c] w fun ev w' => ev = .returned (.bool (namesOk l)) ∧ Below w.heap.size w w' := by
  have hCH := Lib.hid hC
  have hsH := Lib.hid hs
  obtain ⟨n, hN⟩ : ∃ n, n = l.length := ⟨_, rfl⟩
  rw [← hN] at hc hn hCH ⊢
  replace hN := Lib.hid hN
  have hcH := Lib.hid hc
  clear hC hs
  go_enter Tryz.func30, Tryz.ntmps30
  go_wp2_with fail
  go_loopg [7] n (fun g' i W => ∃ k : Nat, g' = n - k ∧ k ≤ n ∧ i = .int .i64 k ∧ (∀ j, j < k → okAt l j = true) ∧ Below w.heap.size w W)
  case atStart => exact ⟨0, rfl, by omega, rfl, fun j hj => absurd hj (by omega), Below.refl _ _⟩
  case round =>
    obtain ⟨k, hg', hk, rfl, hok, hb⟩ := hrel
    subst hg'
    by_cases hkn : k < n
    · have hki : (k : Int) < (n : Int) := by omega
      have hkl : k < l.length := by rw [← hN.out]; exact hkn
      obtain ⟨b, o, rfl, hcell⟩ := str_cell (Kd.C_below hCH.out hb) k hkn
      have hx := hsH.out _ (getD_mem' l k ByteArray.empty hkl)
      have CR := fun W => Lib.hid (right_any (l.getD k ByteArray.empty) hx W)
      have hok2 : okAt l k = (rightL (l.getD k ByteArray.empty).data.toList && (decide (k = 0) || Op.bytesLess (l.getD (k - 1) ByteArray.empty).toList (l.getD k ByteArray.empty).toList)) := rfl
      have hbad := Lib.hid (namesOk_bad hkl)
      have hprev := Lib.hid (fun (W : World) (h : Below w.heap.size w W) (h1 : k - 1 < n) => str_cell (Kd.C_below hCH.out h) (k - 1) h1)
      generalize l.getD k ByteArray.empty = x at *
      generalize hrx : rightL x.data.toList = rx at *
      clear hrx
      have hbH := Lib.hid hb
      have hokH := Lib.hid hok
      clear hb hok
      cases rx with
      | false =>
        have hbd := Lib.hid (hbad.out hok2)
        clear hbad hok2
        go_wp2_with fail
        refine ((CR _).out).mono ?_
        rintro ev w2 ⟨rfl, hb2⟩
        replace hb2 := Lib.hid hb2
        go_wp2_with fail
        go_ret
        exact ⟨by rw [hbd.out]; rfl, hbH.out.trans (hb2.out.mono hbH.out.size)⟩
      | true =>
        by_cases hk0 : k = 0
        · subst hk0
          rw [Nat.add_zero] at hcell
          have hki0 : ¬ (0 : Int) < ((0 : Nat) : Int) := by omega
          have hko : okAt l 0 = true := by rw [hok2]; rfl
          have hkoH := Lib.hid hko
          clear hko hok2 hbad
          go_wp2_with fail
          refine ((CR _).out).mono ?_
          rintro ev w2 ⟨rfl, hb2⟩
          replace hb2 := Lib.hid hb2
          go_wp2_with fail
          go_roundg (n - 1)
          case measure => omega
          case rel => exact ⟨1, rfl, by omega, by go_num, fun j hj => by rw [show j = 0 from by omega]; exact hkoH.out, hbH.out.trans (hb2.out.mono hbH.out.size)⟩
        · have hki0 : (0 : Int) < (k : Int) := by omega
          have hkw : IntKind.i64.wrap ((k : Int) - 1) = ((k - 1 : Nat) : Int) := by rw [show (k : Int) - 1 = ((k - 1 : Nat) : Int) from by omega]; exact Lib.wrap_i64_small _ (by omega)
          have hk1 : ((k - 1 : Nat) : Int) < (n : Int) := by omega
          have hkn1 : k - 1 < n := by omega
          generalize l.getD (k - 1) ByteArray.empty = y at *
          rw [decide_eq_false hk0, Bool.false_or, Bool.true_and] at hok2
          obtain ⟨lt, hlt⟩ : ∃ lt, lt = Op.bytesLess y.toList x.toList := ⟨_, rfl⟩
          rw [← hlt] at hok2
          replace hlt := Lib.hid hlt
          have hok2H := Lib.hid hok2
          clear hok2
          go_wp2_with fail
          refine ((CR _).out).mono ?_
          rintro ev w2 ⟨rfl, hb2⟩
          have hc2 := hprev.out w2 (hbH.out.trans (hb2.mono hbH.out.size)) hkn1
          obtain ⟨b1, o1, hA, hcell1⟩ := hc2
          injection hA with hA
          injection hA with hA1 hA2 _
          subst hA1 hA2
          replace hb2 := Lib.hid hb2
          cases lt with
          | true =>
            have hlt2 : Op.bytesLess y.toList x.toList = true := hlt.out.symm
            have hle : (Op.bytesLess x.toList y.toList || x.toList == y.toList) = false := by rw [le_lt, hlt2]; rfl
            clear hlt2
            go_wp2_with fail
            go_roundg (n - (k + 1))
            case measure => omega
            case rel => exact ⟨k + 1, rfl, by omega, by go_num, fun j hj => by by_cases h : j < k; exact hokH.out j h; rw [show j = k from by omega]; exact hok2H.out, hbH.out.trans (hb2.out.mono hbH.out.size)⟩
          | false =>
            have hlt2 : Op.bytesLess y.toList x.toList = false := hlt.out.symm
            have hle : (Op.bytesLess x.toList y.toList || x.toList == y.toList) = true := by rw [le_lt, hlt2]; rfl
            clear hlt2
            have hbd := Lib.hid (hbad.out hok2H.out)
            go_wp2_with fail
            go_ret
            exact ⟨by rw [hbd.out]; rfl, hbH.out.trans (hb2.out.mono hbH.out.size)⟩
    · have hkn' : k = n := by omega
      subst hkn'
      have hki : ¬ (k : Int) < (k : Int) := by omega
      have hgd := Lib.hid (namesOk_good (l := l) (by rw [← hN.out]; exact hok))
      have hbH := Lib.hid hb
      clear hb hok
      go_wp2_with fail
      go_ret
      exact ⟨by rw [hgd.out, ← hN.out]; show Ending.returned (.bool (decide ((k : Int) ≤ 128))) = _; rw [show decide ((k : Int) ≤ 128) = decide (k ≤ 128) from by rw [decide_eq_decide]; omega], hbH.out⟩
end Go.Proofs.YtbefkoljcacpcaaGreatDoor.Wi
set_option linter.unusedVariables false
set_option linter.unusedSimpArgs false
namespace Go.Proofs.YtbefkoljcacpcaaGreatDoor.Wi
open Go Go.RowKit Go.Proofs.YtbefkoljcacpcaaGreatDoorW.PrintWords Go.Proofs.YtbefkoljcacpcaaGreatDoor.B Go.Proofs.YtbefkoljcacpcaaGreatDoor.Dig
def lim (k : Nat) : Int := ([7, 7, 4, 2147483647, 2147483647, 2147483647] : List Int).getD k 0
def numOk (v : List Int) (k : Nat) : Bool := decide (0 ≤ v.getD k 0) && decide (v.getD k 0 ≤ lim k)
def numsOk (v : List Int) : Bool := (List.range 6).all (numOk v)
def wright (v : List Int) (l : List ByteArray) (p : ByteArray) : Bool :=
  numsOk v && (!decide (v.getD 0 0 = v.getD 1 0) &&
    (if v.getD 2 0 = 1 then decide (p.toList = []) && namesOk l
     else if v.getD 2 0 = 2 then decide (l.length = 0) && (!decide (p.toList = []) && decide (p.size ≤ 12000))
     else if v.getD 2 0 = 3 ∨ v.getD 2 0 = 4 then decide (p.toList = []) && decide (l.length = 0) else false))
theorem row_ptr (g k : Nat) (h : k < 6) : (numRow g)[k * 2]? = some (.pointer (some ⟨g, k, none⟩)) := by
  have : k = 0 ∨ k = 1 ∨ k = 2 ∨ k = 3 ∨ k = 4 ∨ k = 5 := by omega
  rcases this with rfl | rfl | rfl | rfl | rfl | rfl <;> rfl
theorem row_lim (g k : Nat) (h : k < 6) : (numRow g)[k * 2 + 1]? = some (.int .i64 (lim k)) := by
  have : k = 0 ∨ k = 1 ∨ k = 2 ∨ k = 3 ∨ k = 4 ∨ k = 5 := by omega
  rcases this with rfl | rfl | rfl | rfl | rfl | rfl <;> rfl
theorem nums_bad {v : List Int} {k : Nat} (hk : k < 6) (h : numOk v k = false) : numsOk v = false := by
  unfold numsOk
  rw [List.all_eq_false]
  exact ⟨k, List.mem_range.2 hk, by simp [h]⟩
theorem nums_good {v : List Int} (h : ∀ j, j < 6 → numOk v j = true) : numsOk v = true := List.all_eq_true.2 (fun j hj => h j (List.mem_range.1 hj))
theorem wright_bad {v : List Int} {l : List ByteArray} {p : ByteArray} {k : Nat} (hk : k < 6) (h : numOk v k = false) : wright v l p = false := by unfold wright; rw [nums_bad hk h, Bool.false_and]
def letCells (v0 v1 v2 v3 v4 v5 : Int) (A : Option Addr) (n c : Nat) (p : ByteArray) : Array Value := #[.int .i64 v0, .int .i64 v1, .int .i64 v2, .int .i64 v3, .int .i64 v4, .int .i64 v5, .slice A n c, .string p]
theorem let_num (v0 v1 v2 v3 v4 v5 : Int) (A : Option Addr) (n c : Nat) (p : ByteArray) (k : Nat) (h : k < 6) : (letCells v0 v1 v2 v3 v4 v5 A n c p)[k]? = some (.int .i64 ([v0, v1, v2, v3, v4, v5].getD k 0)) := by
  have : k = 0 ∨ k = 1 ∨ k = 2 ∨ k = 3 ∨ k = 4 ∨ k = 5 := by omega
  rcases this with rfl | rfl | rfl | rfl | rfl | rfl <;> rfl
set_option maxRecDepth 100000 in
set_option maxHeartbeats 4000000 in
theorem right_c (v0 v1 v2 v3 v4 v5 : Int) (A : Option Addr) (c : Nat) (l : List ByteArray) (p : ByteArray) (w : World) (hC : Kd.C Kd.string w A l.length l) (hc : l.length ≤ c) (hn : l.length ≤ 1000000000000) (hs : ∀ x ∈ l, x.size ≤ 140737488351232) :
    Calls Tryz.prog 13 #[.agg (letCells v0 v1 v2 v3 v4 v5 A l.length c p)] w fun ev w' => ev = .returned (.bool (wright [v0, v1, v2, v3, v4, v5] l p)) ∧ Below w.heap.size w w' := by
  obtain ⟨w1, hw1⟩ : ∃ w1, w1 = w.alloc (.cells (letCells v0 v1 v2 v3 v4 v5 A l.length c p) 24) := ⟨_, rfl⟩
  have hb1 : Below w.heap.size w w1 := by rw [hw1]; exact (Below.refl _ _).alloc (Nat.le_refl _) _
  have hg : w1.heap[w.heap.size]? = some (.cells (letCells v0 v1 v2 v3 v4 v5 A l.length c p) 24 (0, 0)) := by rw [hw1]; exact heap_alloc_at _ _
  obtain ⟨g, hgs⟩ : ∃ g, g = w.heap.size := ⟨_, rfl⟩
  rw [← hgs] at hg hb1 ⊢
  have CN := Lib.hid (numbers_c g w1)
  have CW := Lib.hid (fun W (hb : Below g w W) => names_c A c l W (Kd.C_below hC (hgs ▸ hb)) hc hn hs)
  have hgH := Lib.hid hg
  have hb1H := Lib.hid hb1
  have hw1' := hw1
  unfold letCells at hw1' ⊢
  obtain ⟨n, hN⟩ : ∃ n, n = l.length := ⟨_, rfl⟩
  rw [← hN] at hc hn hw1' ⊢
  replace hN := Lib.hid hN
  clear hC hg hb1 hw1
  go_enter Tryz.func13, Tryz.ntmps13
  go_wp2_with fail
  rw [← hgs, ← hw1']
  replace hw1 := Lib.hid hw1'
  replace hgs := Lib.hid hgs
  clear hw1'
  refine (CN.out).mono ?_
  rintro ev w2 ⟨A2, t2, rfl, hA2, hrow, hb2⟩
  have hrowH := Lib.hid hrow
  have hb2H := Lib.hid (hb1H.out.trans (hb2.mono (Nat.le_of_lt (heap_lt hgH.out))))
  have hgg := Lib.hid ((hb2.block _ (heap_lt hgH.out)).trans hgH.out)
  clear hrow hb2
  go_wp2_with fail
  go_loopg [7] 6 (fun g' i W => ∃ k : Nat, g' = 6 - k ∧ k ≤ 6 ∧ i = .int .i64 k ∧ (∀ j, j < k → numOk [v0, v1, v2, v3, v4, v5] j = true) ∧ Below w2.heap.size w2 W)
  case atStart => exact ⟨0, rfl, by omega, rfl, fun j hj => absurd hj (by omega), Below.refl _ _⟩
  case round =>
    obtain ⟨k, hg', hk, rfl, hok, hb⟩ := hrel
    subst hg'
    have hrowr := (hb.block _ (heap_lt hrowH.out)).trans hrowH.out
    have hlet := (hb.block _ (heap_lt hgg.out)).trans hgg.out
    by_cases hk6 : k < 6
    · have hki : (k : Int) < 6 := by omega
      have hp1 : wr.cell? ⟨A2, k * 2, none⟩ = some (.pointer (some ⟨g, k, none⟩)) := by rw [cell_of hrowr]; exact row_ptr g k hk6
      have hp2 : wr.cell? ⟨A2, k * 2 + 1, none⟩ = some (.int .i64 (lim k)) := by rw [cell_of hrowr]; exact row_lim g k hk6
      have hp3 : wr.cell? ⟨g, k, none⟩ = some (.int .i64 ([v0, v1, v2, v3, v4, v5].getD k 0)) := by rw [cell_of hlet]; exact let_num _ _ _ _ _ _ _ _ _ _ k hk6
      have hnk : numOk [v0, v1, v2, v3, v4, v5] k = (decide (0 ≤ [v0, v1, v2, v3, v4, v5].getD k 0) && decide ([v0, v1, v2, v3, v4, v5].getD k 0 ≤ lim k)) := rfl
      generalize [v0, v1, v2, v3, v4, v5].getD k 0 = x at *
      obtain ⟨m, hm⟩ : ∃ m, m = lim k := ⟨_, rfl⟩
      rw [← hm] at hp2 hnk
      replace hm := Lib.hid hm
      have hltb := Lib.hid (show g < wr.heap.size from heap_lt hlet)
      have hokH := Lib.hid hok
      have hbH := Lib.hid hb
      replace hnk := Lib.hid hnk
      clear hrowr hlet hok hb
      go_wp2_with fail
      obtain ⟨W1, hW1⟩ : ∃ W1, W1 = wr.alloc (.cells #[.pointer (some ⟨g, k, none⟩), .int .i64 m] 58) := ⟨_, rfl⟩
      have hq : W1.heap[wr.heap.size]? = some (.cells #[.pointer (some ⟨g, k, none⟩), .int .i64 m] 58 (0, 0)) := by rw [hW1]; exact heap_alloc_at _ _
      have hbW := Lib.hid (show Below w2.heap.size w2 W1 by rw [hW1]; exact hbH.out.alloc hbH.out.size _)
      have hc1 : W1.cell? ⟨wr.heap.size, 0, none⟩ = some (.pointer (some ⟨g, k, none⟩)) := by rw [cell_of hq]; rfl
      have hc2 : W1.cell? ⟨wr.heap.size, 1, none⟩ = some (.int .i64 m) := by rw [cell_of hq]; rfl
      have hc3 : W1.cell? ⟨g, k, none⟩ = some (.int .i64 x) := by rw [hW1, World.cell?_of_block (w := wr) (heap_alloc_lt _ _ _ hltb.out)]; exact hp3
      rw [← hW1]
      replace hW1 := Lib.hid hW1
      obtain ⟨q, hq'⟩ : ∃ q, q = wr.heap.size := ⟨_, rfl⟩
      rw [← hq'] at hc1 hc2 ⊢
      replace hq' := Lib.hid hq'
      clear hq hp1 hp2 hp3
      by_cases hx0 : x < 0
      · have hbd := Lib.hid (wright_bad (v := [v0, v1, v2, v3, v4, v5]) (l := l) (p := p) hk6 (by rw [hnk.out, decide_eq_false (by omega), Bool.false_and]))
        go_region
        all_goals (go_wp2_with fail; go_ret; exact ⟨by rw [hbd.out]; rfl, hb2H.out.trans ((hbW.out.drew).mono (Nat.le_of_lt (heap_lt hgg.out)))⟩)
      · by_cases hxm : m < x
        · have hbd := Lib.hid (wright_bad (v := [v0, v1, v2, v3, v4, v5]) (l := l) (p := p) hk6 (by rw [hnk.out, decide_eq_false (p := x ≤ m) (by omega), Bool.and_false]))
          go_region
          all_goals (go_wp2_with fail; go_ret; exact ⟨by rw [hbd.out]; rfl, hb2H.out.trans ((hbW.out.drew).mono (Nat.le_of_lt (heap_lt hgg.out)))⟩)
        · have hgd := Lib.hid (show numOk [v0, v1, v2, v3, v4, v5] k = true by rw [hnk.out, decide_eq_true (show 0 ≤ x by omega), decide_eq_true (show x ≤ m by omega)]; rfl)
          go_region
          go_wp2_with fail
          go_roundg (6 - (k + 1))
          case measure => omega
          case rel => exact ⟨k + 1, rfl, by omega, by go_num, fun j hj => by by_cases h : j < k; exact hokH.out j h; rw [show j = k from by omega]; exact hgd.out, hbW.out.drew⟩
    · have hk6e : k = 6 := by omega
      subst hk6e
      have hki : ¬ ((6 : Nat) : Int) < 6 := by omega
      have hnums := nums_good hok
      have c0 : wr.cell? ⟨g, 0, none⟩ = some (.int .i64 v0) := by rw [cell_of hlet]; rfl
      have c1 : wr.cell? ⟨g, 1, none⟩ = some (.int .i64 v1) := by rw [cell_of hlet]; rfl
      have c2 : wr.cell? ⟨g, 2, none⟩ = some (.int .i64 v2) := by rw [cell_of hlet]; rfl
      have c6 : wr.cell? ⟨g, 6, none⟩ = some (.slice A n c) := by rw [cell_of hlet, hN.out]; rfl
      have c7 : wr.cell? ⟨g, 7, none⟩ = some (.string p) := by rw [cell_of hlet]; rfl
      have hwr : wright [v0, v1, v2, v3, v4, v5] l p = (!decide (v0 = v1) && (if v2 = 1 then decide (p.toList = []) && namesOk l
        else if v2 = 2 then decide (l.length = 0) && (!decide (p.toList = []) && decide (p.size ≤ 12000))
        else if v2 = 3 ∨ v2 = 4 then decide (p.toList = []) && decide (l.length = 0) else false)) := by unfold wright; rw [hnums, Bool.true_and]; rfl
      have CW1 := Lib.hid (CW.out wr (hb2H.out.trans (hb.mono (Nat.le_of_lt (heap_lt hgg.out)))))
      have hbH := Lib.hid (hb2H.out.trans (hb.mono (Nat.le_of_lt (heap_lt hgg.out))))
      have hgw := Lib.hid (show g ≤ wr.heap.size from Nat.le_of_lt (heap_lt hlet))
      clear hrowr hlet hok hb hnums CW CN
      rw [← hN.out] at hwr
      rw [← hN.out] at CW1
      by_cases h01 : v0 = v1
      · subst h01
        rw [decide_eq_true rfl, Bool.not_true, Bool.false_and] at hwr
        replace hwr := Lib.hid hwr
        go_wp2_with fail
        go_ret
        exact ⟨by rw [hwr.out]; rfl, hbH.out⟩
      · rw [decide_eq_false h01, Bool.not_false, Bool.true_and] at hwr
        by_cases k1 : v2 = 1
        · subst k1
          rw [if_pos rfl] at hwr
          by_cases hp : p.toList = []
          · rw [decide_eq_true hp, Bool.true_and] at hwr
            replace hwr := Lib.hid hwr
            go_wp2_with fail
            refine (CW1.out).mono ?_
            rintro ev w3 ⟨rfl, hb3⟩
            replace hb3 := Lib.hid (hbH.out.trans (hb3.mono hgw.out))
            go_wp2_with fail
            go_ret
            exact ⟨by rw [hwr.out]; rfl, hb3.out⟩
          · rw [decide_eq_false hp, Bool.false_and] at hwr
            replace hwr := Lib.hid hwr
            go_wp2_with fail
            go_ret
            exact ⟨by rw [hwr.out]; rfl, hbH.out⟩
        · rw [if_neg k1] at hwr
          by_cases k2 : v2 = 2
          · subst k2
            rw [if_pos rfl] at hwr
            by_cases hn0 : n = 0
            · rw [decide_eq_true hn0, Bool.true_and] at hwr
              by_cases hp : p.toList = []
              · rw [decide_eq_true hp, Bool.not_true, Bool.false_and] at hwr
                replace hwr := Lib.hid hwr
                go_wp2_with fail
                go_ret
                exact ⟨by rw [hwr.out]; rfl, hbH.out⟩
              · rw [decide_eq_false hp, Bool.not_false, Bool.true_and] at hwr
                rw [show decide (p.size ≤ 12000) = decide ((p.size : Int) ≤ 12000) from by rw [decide_eq_decide]; omega] at hwr
                replace hwr := Lib.hid hwr
                have hpe := Lib.hid (show p.toList.isEmpty = false by simpa using hp)
                go_wp2_with fail
                go_ret
                exact ⟨by rw [hwr.out]; show Ending.returned (.bool (!p.toList.isEmpty && decide ((p.size : Int) ≤ 12000))) = _; rw [hpe.out]; rfl, hbH.out⟩
            · rw [decide_eq_false hn0, Bool.false_and] at hwr
              have hn0' : ¬ (n : Int) = 0 := by omega
              replace hwr := Lib.hid hwr
              go_wp2_with fail
              go_ret
              exact ⟨by rw [hwr.out]; rfl, hbH.out⟩
          · rw [if_neg k2] at hwr
            by_cases k34 : v2 = 3 ∨ v2 = 4
            · rw [if_pos k34] at hwr
              by_cases hp : p.toList = []
              · rw [decide_eq_true hp, Bool.true_and] at hwr
                rw [show decide (n = 0) = decide ((n : Int) = 0) from by rw [decide_eq_decide]; omega] at hwr
                replace hwr := Lib.hid hwr
                rcases k34 with rfl | rfl
                · go_wp2_with fail
                  go_ret
                  exact ⟨by rw [hwr.out]; rfl, hbH.out⟩
                · go_wp2_with fail
                  go_ret
                  exact ⟨by rw [hwr.out]; rfl, hbH.out⟩
              · rw [decide_eq_false hp, Bool.false_and] at hwr
                replace hwr := Lib.hid hwr
                rcases k34 with rfl | rfl
                · go_wp2_with fail
                  go_ret
                  exact ⟨by rw [hwr.out]; rfl, hbH.out⟩
                · go_wp2_with fail
                  go_ret
                  exact ⟨by rw [hwr.out]; rfl, hbH.out⟩
            · rw [if_neg k34] at hwr
              have k3 : ¬ v2 = 3 := fun h => k34 (.inl h)
              have k4 : ¬ v2 = 4 := fun h => k34 (.inr h)
              replace hwr := Lib.hid hwr
              clear k34
              go_wp2_with fail
              go_ret
              exact ⟨by rw [hwr.out]; rfl, hbH.out⟩
end Go.Proofs.YtbefkoljcacpcaaGreatDoor.Wi
set_option linter.unusedVariables false
set_option linter.unusedSimpArgs false
namespace Go.Proofs.YtbefkoljcacpcaaGreatDoor.B
open Go Go.RowKit
structure Lat (w : World) where
  val : World
  below : Below w.heap.size w val
theorem Lat.cell {w : World} {p : Addr} {v : Value} (h : w.cell? p = some v) (x : Lat w) : x.val.cell? p = some v := (x.below.cell (World.block_lt_of_cell? w p h)).trans h
def Lat.drew (w : World) : Lat w := ⟨w.drew, (Below.refl _ _).drew⟩
instance (w : World) : Nonempty (Lat w) := ⟨Lat.drew w⟩
theorem wp_region_lat {P : Program} {id : Nat} {Q : Exit → Act → World → Prop} {a : Act} {w : World} {l : List Oper} (hm : P.follows .mixedOrders = true) (hB : Region.lexB .any l.toArray = true)
    (h : wpQuiet P l.toArray (fun w' => ∃ x : Lat w, w' = x.val) (fun a' => ∀ w', (∃ x : Lat w, w' = x.val) → Q .normal a' w') l a) : (Code.region id l.toArray true).wp P Q a w :=
  wp_region_quiet (C := fun w' => ∃ x : Lat w, w' = x.val) hm hB ⟨Lat.drew w, rfl⟩ (by simpa using h)
theorem lat_of {P : Program} {f : FuncId} {args : Array Value} {w : World} {v : Value} {x : Lat w}
    (h : Calls P f args x.val fun e w' => e = .returned v ∧ Below x.val.heap.size x.val w') : Calls P f args x.val fun e w'' => e = .returned v ∧ ∃ y : Lat w, w'' = y.val :=
  h.mono fun _ w' ⟨he, hb⟩ => ⟨he, ⟨w', x.below.trans (hb.mono x.below.size)⟩, rfl⟩
end Go.Proofs.YtbefkoljcacpcaaGreatDoor.B
set_option linter.unusedVariables false
set_option linter.unusedSimpArgs false
namespace Go.Proofs.YtbefkoljcacpcaaGreatDoor.Wi
open Go Go.RowKit Go.Proofs.YtbefkoljcacpcaaGreatDoorW.PrintWords Go.Proofs.YtbefkoljcacpcaaGreatDoor.B Go.Proofs.YtbefkoljcacpcaaGreatDoor.Dig
set_option maxRecDepth 100000 in
theorem number17 (x : Int) (w : World) : Calls Tryz.prog 55 #[.int .i64 x] w fun ev w' => ev = .returned (.bool (decide (0 ≤ x) && decide (x ≤ 2147483647))) ∧ w' = w := by
  by_cases h : 0 ≤ x
  · rw [decide_eq_true h, Bool.true_and]
    go_enter Tryz.func55, Tryz.ntmps55
    go_wp2_with fail
    go_ret
    exact ⟨rfl, rfl⟩
  · rw [decide_eq_false h, Bool.false_and]
    go_enter Tryz.func55, Tryz.ntmps55
    go_wp2_with fail
    go_ret
    exact ⟨rfl, rfl⟩
theorem num_ok (x : Int) (h : 0 ≤ x) (h' : x ≤ 2147483647) (w : World) : Calls Tryz.prog 55 #[.int .i64 x] w fun ev w' => ev = .returned (.bool true) ∧ w' = w := by
  have := number17 x w
  rwa [decide_eq_true h, decide_eq_true h'] at this
theorem num_no (x : Int) (h : ¬ (0 ≤ x ∧ x ≤ 2147483647)) (w : World) : Calls Tryz.prog 55 #[.int .i64 x] w fun ev w' => ev = .returned (.bool false) ∧ w' = w := by
  have := number17 x w
  rwa [← Bool.decide_and, decide_eq_false h] at this
theorem apart_no {v0 v1 v2 v3 v4 v5 : Int} {l : List ByteArray} {p : ByteArray} (h : v0 = v1) : wright [v0, v1, v2, v3, v4, v5] l p = false := by
  unfold wright
  have e : decide (([v0, v1, v2, v3, v4, v5] : List Int).getD 0 0 = ([v0, v1, v2, v3, v4, v5] : List Int).getD 1 0) = true := decide_eq_true h
  rw [e, Bool.not_true, Bool.false_and, Bool.and_false]
theorem three_no {v0 v1 v2 v3 v4 v5 : Int} {l : List ByteArray} {p : ByteArray} (h : ((!decide (v2 = 1) && decide (0 < l.length)) || (!decide (v2 = 2) && !decide (p.toList = [])) || decide (128 < l.length)) = true) : wright [v0, v1, v2, v3, v4, v5] l p = false := by
  unfold wright
  rw [Bool.and_eq_false_iff]; right
  rw [Bool.and_eq_false_iff]; right
  show (if v2 = 1 then decide (p.toList = []) && namesOk l
     else if v2 = 2 then decide (l.length = 0) && (!decide (p.toList = []) && decide (p.size ≤ 12000))
     else if v2 = 3 ∨ v2 = 4 then decide (p.toList = []) && decide (l.length = 0) else false) = false
  simp only [Bool.or_eq_true, Bool.and_eq_true, Bool.not_eq_true', decide_eq_true_eq, decide_eq_false_iff_not] at h
  have hz : 128 < l.length → namesOk l = false := by intro h; unfold namesOk; rw [decide_eq_false (by omega), Bool.and_false]
  by_cases z1 : v2 = 1
  · subst z1
    rw [if_pos rfl]
    rcases h with (⟨h, _⟩ | ⟨_, h⟩) | h
    · exact absurd rfl h
    · rw [decide_eq_false h, Bool.false_and]
    · rw [hz h, Bool.and_false]
  · rw [if_neg z1]
    by_cases z2 : v2 = 2
    · subst z2
      rw [if_pos rfl]
      rcases h with (⟨_, h⟩ | ⟨h, _⟩) | h
      · rw [decide_eq_false (show ¬ l.length = 0 by omega), Bool.false_and]
      · exact absurd rfl h
      · rw [decide_eq_false (show ¬ l.length = 0 by omega), Bool.false_and]
    · rw [if_neg z2]
      split
      · rcases h with (⟨_, h⟩ | ⟨_, h⟩) | h
        · rw [decide_eq_false (show ¬ l.length = 0 by omega), Bool.and_false]
        · rw [decide_eq_false h, Bool.false_and]
        · rw [decide_eq_false (show ¬ l.length = 0 by omega), Bool.and_false]
      · rfl
theorem good_end {v0 v1 v2 v3 v4 v5 : Int} {l : List ByteArray} {p : ByteArray} (h01 : ¬ v0 = v1) (h0 : 0 ≤ v0 ∧ v0 ≤ 7) (h1 : 0 ≤ v1 ∧ v1 ≤ 7) (h3 : 0 ≤ v3 ∧ v3 ≤ 2147483647) (h4 : 0 ≤ v4 ∧ v4 ≤ 2147483647) (h5 : 0 ≤ v5 ∧ v5 ≤ 2147483647)
    (h : ((!decide (v2 = 1) && decide (0 < l.length)) || (!decide (v2 = 2) && !decide (p.toList = [])) || decide (128 < l.length)) = false) (hn : namesOk l = decide (l.length ≤ 128)) :
    wright [v0, v1, v2, v3, v4, v5] l p = (decide (1 ≤ v2) && (decide (v2 ≤ 4) && (!decide (v2 = 2) || (!decide (p.toList = []) && decide (p.size ≤ 12000))))) := by
  simp only [Bool.or_eq_false_iff, Bool.and_eq_false_iff, Bool.not_eq_false', decide_eq_true_eq, decide_eq_false_iff_not] at h
  obtain ⟨⟨ha, hb⟩, hc⟩ := h
  have e : wright [v0, v1, v2, v3, v4, v5] l p = (numsOk [v0, v1, v2, v3, v4, v5] && (!decide (v0 = v1) && (if v2 = 1 then decide (p.toList = []) && namesOk l
     else if v2 = 2 then decide (l.length = 0) && (!decide (p.toList = []) && decide (p.size ≤ 12000))
     else if v2 = 3 ∨ v2 = 4 then decide (p.toList = []) && decide (l.length = 0) else false))) := rfl
  have en : numsOk [v0, v1, v2, v3, v4, v5] = decide (0 ≤ v2 ∧ v2 ≤ 4) := by
    have e2 : numsOk [v0, v1, v2, v3, v4, v5] = ((decide (0 ≤ v0) && decide (v0 ≤ 7)) && ((decide (0 ≤ v1) && decide (v1 ≤ 7)) && ((decide (0 ≤ v2) && decide (v2 ≤ 4)) && ((decide (0 ≤ v3) && decide (v3 ≤ 2147483647)) && ((decide (0 ≤ v4) && decide (v4 ≤ 2147483647)) && ((decide (0 ≤ v5) && decide (v5 ≤ 2147483647)) && true)))))) := rfl
    rw [e2]
    simp [h0.1, h0.2, h1.1, h1.2, h3.1, h3.2, h4.1, h4.2, h5.1, h5.2]
  rw [e, en, decide_eq_false h01, hn, decide_eq_true (show l.length ≤ 128 by omega)]
  by_cases z1 : v2 = 1
  · subst z1
    have hp : p.toList = [] := by rcases hb with h | h; exact absurd h (by decide); exact h
    simp [hp]
  · have hl : l.length = 0 := by rcases ha with h | h; exact absurd h z1; omega
    by_cases z2 : v2 = 2
    · subst z2
      simp [hl]
    · have hp : p.toList = [] := by rcases hb with h | h; exact absurd h z2; exact h
      by_cases z3 : v2 = 3
      · subst z3; simp [hp, hl]
      · by_cases z4 : v2 = 4
        · subst z4; simp [hp, hl]
        · rw [if_neg z1, if_neg z2, if_neg (by rintro (h | h); exact z3 h; exact z4 h)]
          have : ¬ (1 ≤ v2 ∧ v2 ≤ 4) := by omega
          by_cases k1 : 1 ≤ v2
          · rw [decide_eq_false (show ¬ v2 ≤ 4 by omega)]; simp
          · rw [decide_eq_false k1]; simp
theorem bad_at {v : List Int} {l : List ByteArray} {p : ByteArray} (k : Nat) (hk : k < 6) (h : ¬ (0 ≤ v.getD k 0 ∧ v.getD k 0 ≤ lim k)) : wright v l p = false :=
  wright_bad hk (by unfold numOk; rw [← Bool.decide_and]; exact decide_eq_false h)
theorem keepc {w w' : World} {p : Addr} {v : Value} (h : Below w.heap.size w w') (hc : w.cell? p = some v) : w'.cell? p = some v := (h.cell (World.block_lt_of_cell? w p hc)).trans hc
theorem wright_names {v0 v1 v2 v3 v4 v5 : Int} {l : List ByteArray} {p : ByteArray} {k : Nat} (h : v2 = 1) (hk : k < l.length) (hb : okAt l k = false) : wright [v0, v1, v2, v3, v4, v5] l p = false := by
  unfold wright
  show (_ && (_ && (if v2 = 1 then _ else _))) = false
  rw [if_pos h, namesOk_bad hk hb, Bool.and_false, Bool.and_false, Bool.and_false]
set_option maxRecDepth 100000 in
set_option maxHeartbeats 8000000 in
theorem right17_c (v0 v1 v2 v3 v4 v5 : Int) (A : Option Addr) (c : Nat) (l : List ByteArray) (p : ByteArray) (w : World) (hC : Kd.C Kd.string w A l.length l) (hc : l.length ≤ c) (hn : l.length ≤ 1000000000000) (hs : ∀ x ∈ l, x.size ≤ 140737488351232) :
    Calls Tryz.prog 28 #[.agg (letCells v0 v1 v2 v3 v4 v5 A l.length c p)] w fun ev w' => ev = .returned (.bool (wright [v0, v1, v2, v3, v4, v5] l p)) ∧ Below w.heap.size w w' := by
  obtain ⟨w1, hw1⟩ : ∃ w1, w1 = w.alloc (.cells (letCells v0 v1 v2 v3 v4 v5 A l.length c p) 24) := ⟨_, rfl⟩
  have hb1 : Below w.heap.size w w1 := by rw [hw1]; exact (Below.refl _ _).alloc (Nat.le_refl _) _
  have hg : w1.heap[w.heap.size]? = some (.cells (letCells v0 v1 v2 v3 v4 v5 A l.length c p) 24 (0, 0)) := by rw [hw1]; exact heap_alloc_at _ _
  obtain ⟨g, hgs⟩ : ∃ g, g = w.heap.size := ⟨_, rfl⟩
  rw [← hgs] at hg hb1 ⊢
  have hgH := Lib.hid hg
  have hb1H := Lib.hid hb1
  have hw1' := hw1
  have hCH := Lib.hid hC
  unfold letCells at hw1' ⊢
  have c0 : w1.cell? ⟨g, 0, none⟩ = some (.int .i64 v0) := by rw [cell_of hg]; rfl
  have c1 : w1.cell? ⟨g, 1, none⟩ = some (.int .i64 v1) := by rw [cell_of hg]; rfl
  have c2 : w1.cell? ⟨g, 2, none⟩ = some (.int .i64 v2) := by rw [cell_of hg]; rfl
  have c3 : w1.cell? ⟨g, 3, none⟩ = some (.int .i64 v3) := by rw [cell_of hg]; rfl
  have c4 : w1.cell? ⟨g, 4, none⟩ = some (.int .i64 v4) := by rw [cell_of hg]; rfl
  have c5 : w1.cell? ⟨g, 5, none⟩ = some (.int .i64 v5) := by rw [cell_of hg]; rfl
  have c6 : w1.cell? ⟨g, 6, none⟩ = some (.slice A l.length c) := by rw [cell_of hg]; rfl
  have c7 : w1.cell? ⟨g, 7, none⟩ = some (.string p) := by rw [cell_of hg]; rfl
  obtain ⟨n, hN⟩ : ∃ n, n = l.length := ⟨_, rfl⟩
  rw [← hN] at hc hn hw1' c6 ⊢
  replace hN := Lib.hid hN
  clear hC hg hb1 hw1
  obtain ⟨r, hr⟩ : ∃ r, r = wright [v0, v1, v2, v3, v4, v5] l p := ⟨_, rfl⟩
  rw [← hr]
  replace hr := Lib.hid hr
  go_enter Tryz.func28, Tryz.ntmps28
  go_upto_region 1 with fail
  rw [← hgs, ← hw1']
  replace hw1 := Lib.hid hw1'
  replace hgs := Lib.hid hgs
  clear hw1'
  by_cases q0 : v0 < 0
  · have hrf := Lib.hid (show r = false by rw [hr.out]; exact bad_at 0 (by omega) (by show ¬ (0 ≤ v0 ∧ v0 ≤ 7); omega))
    go_wp2_with fail
    go_ret
    exact ⟨by rw [hrf.out]; rfl, hb1H.out⟩
  by_cases q1 : 7 < v0
  · have hrf := Lib.hid (show r = false by rw [hr.out]; exact bad_at 0 (by omega) (by show ¬ (0 ≤ v0 ∧ v0 ≤ 7); omega))
    go_wp2_with fail
    go_ret
    exact ⟨by rw [hrf.out]; rfl, hb1H.out⟩
  by_cases q2 : v1 < 0
  · have hrf := Lib.hid (show r = false by rw [hr.out]; exact bad_at 1 (by omega) (by show ¬ (0 ≤ v1 ∧ v1 ≤ 7); omega))
    go_wp2_with fail
    go_ret
    exact ⟨by rw [hrf.out]; rfl, hb1H.out⟩
  by_cases q3 : 7 < v1
  · have hrf := Lib.hid (show r = false by rw [hr.out]; exact bad_at 1 (by omega) (by show ¬ (0 ≤ v1 ∧ v1 ≤ 7); omega))
    go_wp2_with fail
    go_ret
    exact ⟨by rw [hrf.out]; rfl, hb1H.out⟩
  by_cases q4 : v0 = v1
  · have hrf := Lib.hid (show r = false by rw [hr.out]; exact apart_no q4)
    go_wp2_with fail
    go_ret
    exact ⟨by rw [hrf.out]; rfl, hb1H.out⟩
  by_cases q5 : ¬ (0 ≤ v3 ∧ v3 ≤ 2147483647)
  · have hrf := Lib.hid (show r = false by rw [hr.out]; exact bad_at 3 (by omega) (by show ¬ (0 ≤ v3 ∧ v3 ≤ 2147483647); omega))
    go_wp2_with fail
    refine (num_no v3 q5 _).mono ?_
    rintro ev w2 ⟨rfl, rfl⟩
    go_wp2_with fail
    go_ret
    exact ⟨by rw [hrf.out]; rfl, hb1H.out⟩
  replace q5 := Classical.not_not.1 q5
  by_cases q6 : ¬ (0 ≤ v4 ∧ v4 ≤ 2147483647)
  · have hrf := Lib.hid (show r = false by rw [hr.out]; exact bad_at 4 (by omega) (by show ¬ (0 ≤ v4 ∧ v4 ≤ 2147483647); omega))
    go_wp2_with fail
    refine (num_ok v3 q5.1 q5.2 _).mono ?_
    rintro ev w2 ⟨rfl, rfl⟩
    go_wp2_with fail
    refine (num_no v4 q6 _).mono ?_
    rintro ev w2 ⟨rfl, rfl⟩
    go_wp2_with fail
    go_ret
    exact ⟨by rw [hrf.out]; rfl, hb1H.out⟩
  replace q6 := Classical.not_not.1 q6
  by_cases q7 : ¬ (0 ≤ v5 ∧ v5 ≤ 2147483647)
  · have hrf := Lib.hid (show r = false by rw [hr.out]; exact bad_at 5 (by omega) (by show ¬ (0 ≤ v5 ∧ v5 ≤ 2147483647); omega))
    go_wp2_with fail
    refine (num_ok v3 q5.1 q5.2 _).mono ?_
    rintro ev w2 ⟨rfl, rfl⟩
    go_wp2_with fail
    refine (num_ok v4 q6.1 q6.2 _).mono ?_
    rintro ev w2 ⟨rfl, rfl⟩
    go_wp2_with fail
    refine (num_no v5 q7 _).mono ?_
    rintro ev w2 ⟨rfl, rfl⟩
    go_wp2_with fail
    go_ret
    exact ⟨by rw [hrf.out]; rfl, hb1H.out⟩
  replace q7 := Classical.not_not.1 q7
  go_upto_region 3 with fail
  refine (num_ok v3 q5.1 q5.2 _).mono ?_
  rintro ev w2 ⟨rfl, rfl⟩
  go_upto_region 3 with fail
  refine (num_ok v4 q6.1 q6.2 _).mono ?_
  rintro ev w2 ⟨rfl, rfl⟩
  go_upto_region 3 with fail
  refine (num_ok v5 q7.1 q7.2 _).mono ?_
  rintro ev w2 ⟨rfl, rfl⟩
  go_upto_region 3 with fail
  go_cut [71] (fun v wc => v = .bool ((!decide (v2 = 1) && decide (0 < n)) || (!decide (v2 = 2) && !decide (p.toList = [])) || decide (128 < n)) ∧ wc = w2)
  case first =>
    have e128 : decide ((128 : Int) < (n : Int)) = decide (128 < n) := by rw [decide_eq_decide]; omega
    by_cases z1 : v2 = 1
    · subst z1
      by_cases zp : p.toList = []
      · go_wp2_with fail
        go_meet
        case rel => exact ⟨by simp [zp], rfl⟩
      · go_wp2_with fail
        go_meet
        case rel => exact ⟨by simp [zp], rfl⟩
    · by_cases zn : 0 < n
      · have zn' : (0 : Int) < (n : Int) := by omega
        go_wp2_with fail
        go_meet
        case rel => exact ⟨by simp [z1, zn], rfl⟩
      · have zn' : ¬ (0 : Int) < (n : Int) := by omega
        by_cases z2 : v2 = 2
        · subst z2
          go_wp2_with fail
          go_meet
          case rel => exact ⟨by simp [zn], rfl⟩
        · by_cases zp : p.toList = []
          · go_wp2_with fail
            go_meet
            case rel => exact ⟨by simp [zn, zp], rfl⟩
          · go_wp2_with fail
            go_meet
            case rel => exact ⟨by simp [zp, z2], rfl⟩
  case rest =>
    obtain ⟨rfl, rfl⟩ := hcut
    obtain ⟨b3, hb3⟩ : ∃ b3, b3 = ((!decide (v2 = 1) && decide (0 < n)) || (!decide (v2 = 2) && !decide (p.toList = [])) || decide (128 < n)) := ⟨_, rfl⟩
    rw [← hb3]
    cases b3 with
    | true =>
      have hrf := Lib.hid (show r = false by rw [hr.out]; exact three_no (by rw [← hN.out]; exact hb3.symm))
      clear hb3
      go_wp2_with fail
      go_ret
      exact ⟨by rw [hrf.out]; rfl, hb1H.out⟩
    | false =>
      replace hb3 := Lib.hid hb3
      go_wp2_with fail
      go_loopg [3] n (fun g' i W => ∃ k : Nat, g' = n - k ∧ k ≤ n ∧ i = .int .i64 k ∧ (∀ j, j < k → okAt l j = true) ∧ Below wc.heap.size wc W)
      case atStart => exact ⟨0, rfl, by omega, rfl, fun j hj => absurd hj (by omega), Below.refl _ _⟩
      case round =>
        obtain ⟨k, hg', hk, rfl, hok, hb⟩ := hrel
        subst hg'
        have hlet := (hb.block _ (heap_lt hgH.out)).trans hgH.out
        have d2 : wr.cell? ⟨g, 2, none⟩ = some (.int .i64 v2) := by rw [cell_of hlet]; rfl
        have d6 : wr.cell? ⟨g, 6, none⟩ = some (.slice A n c) := by rw [cell_of hlet, hN.out]; rfl
        have d7 : wr.cell? ⟨g, 7, none⟩ = some (.string p) := by rw [cell_of hlet]; rfl
        have hbH := Lib.hid (hb1H.out.trans (hb.mono (Nat.le_of_lt (heap_lt hgH.out))))
        have hbH' := Lib.hid hb
        by_cases hkn : k < n
        · have hki : (k : Int) < (n : Int) := by omega
          have hkl : k < l.length := by rw [← hN.out]; exact hkn
          have hv1 : v2 = 1 := by
            by_cases h : v2 = 1
            · exact h
            · have h2 := hb3.out
              rw [decide_eq_false h, decide_eq_true (show 0 < n by omega)] at h2
              simp at h2
          have hv1H := Lib.hid hv1
          clear hv1
          obtain ⟨b, o, rfl, hcell⟩ := str_cell (Kd.C_below hCH.out (by rw [← hgs.out]; exact hbH.out)) k hkl
          have hx := hs _ (getD_mem' l k ByteArray.empty hkl)
          have CR := fun W => Lib.hid (rightRef (l.getD k ByteArray.empty) W hx)
          have hok2 : okAt l k = (rightL (l.getD k ByteArray.empty).data.toList && (decide (k = 0) || Op.bytesLess (l.getD (k - 1) ByteArray.empty).toList (l.getD k ByteArray.empty).toList)) := rfl
          have hbad := Lib.hid (fun h => hr.out.trans (wright_names (p := p) hv1H.out hkl h))
          have hprev : k ≠ 0 → wr.cell? ⟨b, o + (k - 1), none⟩ = some (.string (l.getD (k - 1) ByteArray.empty)) := by
            intro h0
            obtain ⟨b1, o1, hA, hcell1⟩ := str_cell (Kd.C_below hCH.out (by rw [← hgs.out]; exact hbH.out)) (k - 1) (by omega)
            injection hA with hA
            injection hA with hA1 hA2 _
            subst hA1 hA2
            exact hcell1
          generalize l.getD k ByteArray.empty = x at *
          generalize hrx : rightL x.data.toList = rx at *
          clear hrx hx
          replace hprev := Lib.hid hprev
          have hokH := Lib.hid hok
          have hlt1 := heap_lt hlet
          have hgw := Lib.hid (Nat.le_of_lt hlt1)
          clear hb hok hlet
          have hA := Lib.hid d6
          have hB := Lib.hid hcell
          cases rx with
          | false =>
            have hbd := Lib.hid (hbad.out hok2)
            clear hbad hok2 hprev
            go_upto_region 8 with fail
            have hA3 := Lat.cell hA.out
            have hB3 := Lat.cell hB.out
            have hp3 := trivial
            refine wp_region_lat (by kernel_rfl) (by kernel_rfl) ?_
            repeat (go_big_quiet_step ((go_at_call 56; exact lat_of (CR _).out)))
            refine wpQuiet_nil ?_
            intro _ hw'
            obtain ⟨xl, hw''⟩ := hw'
            subst hw''
            have hb4 := Lib.hid xl.below
            clear hA3 hB3 hp3
            go_wp2_with fail
            go_ret
            exact ⟨by rw [hbd.out]; rfl, hbH.out.trans (hb4.out.mono hgw.out)⟩
          | true =>
            by_cases hk0 : k = 0
            · subst hk0
              have hki0 : ¬ (0 : Int) < ((0 : Nat) : Int) := by omega
              have hko : okAt l 0 = true := by rw [hok2]; rfl
              have hkoH := Lib.hid hko
              clear hko hok2 hbad hprev
              go_upto_region 8 with fail
              have hA3 := Lat.cell hA.out
              have hB3 := Lat.cell (show wr.cell? ⟨b, o, none⟩ = some (.string x) from hB.out)
              have hp3 := trivial
              refine wp_region_lat (by kernel_rfl) (by kernel_rfl) ?_
              repeat (go_big_quiet_step ((go_at_call 56; exact lat_of (CR _).out)))
              refine wpQuiet_nil ?_
              intro _ hw'
              obtain ⟨xl, hw''⟩ := hw'
              subst hw''
              have hb4 := Lib.hid xl.below
              clear hA3 hB3 hp3
              all_goals (try go_wp2_with fail)
              go_roundg (n - 1)
              case measure => omega
              case rel => exact ⟨1, rfl, by omega, by go_num, fun j hj => by rw [show j = 0 from by omega]; exact hkoH.out, hbH'.out.trans (hb4.out.mono hbH'.out.size)⟩
            · have hki0 : (0 : Int) < (k : Int) := by omega
              have hkp0 : 0 < k := by omega
              have hkw : IntKind.i64.wrap ((k : Int) - 1) = ((k - 1 : Nat) : Int) := by rw [show (k : Int) - 1 = ((k - 1 : Nat) : Int) from by omega]; exact Lib.wrap_i64_small _ (by omega)
              have hk1 : ((k - 1 : Nat) : Int) < (n : Int) := by omega
              have hp := Lib.hid (hprev.out hk0)
              generalize l.getD (k - 1) ByteArray.empty = y at *
              rw [decide_eq_false hk0, Bool.false_or, Bool.true_and] at hok2
              have hle := le_lt x.toList y.toList
              obtain ⟨lt, hlt⟩ : ∃ lt, lt = Op.bytesLess y.toList x.toList := ⟨_, rfl⟩
              rw [← hlt] at hok2 hle
              replace hlt := Lib.hid hlt
              have hok2H := Lib.hid hok2
              clear hok2 hprev
              cases lt with
              | true =>
                simp only [Bool.not_true] at hle
                go_upto_region 8 with fail
                have hA3 := Lat.cell hA.out
                have hB3 := Lat.cell hB.out
                have hp3 := Lat.cell hp.out
                refine wp_region_lat (by kernel_rfl) (by kernel_rfl) ?_
                repeat (go_big_quiet_step ((go_at_call 56; exact lat_of (CR _).out)))
                refine wpQuiet_nil ?_
                intro _ hw'
                obtain ⟨xl, hw''⟩ := hw'
                subst hw''
                have hb4 := Lib.hid xl.below
                clear hA3 hB3 hp3
                all_goals (try go_wp2_with fail)
                all_goals go_roundg (n - (k + 1))
                all_goals first | omega | exact ⟨k + 1, rfl, by omega, by go_num, fun j hj => by by_cases h : j < k; exact hokH.out j h; rw [show j = k from by omega]; exact hok2H.out, hbH'.out.trans (hb4.out.mono hbH'.out.size)⟩
              | false =>
                simp only [Bool.not_false] at hle
                have hbd := Lib.hid (hbad.out hok2H.out)
                go_upto_region 8 with fail
                have hA3 := Lat.cell hA.out
                have hB3 := Lat.cell hB.out
                have hp3 := Lat.cell hp.out
                refine wp_region_lat (by kernel_rfl) (by kernel_rfl) ?_
                repeat (go_big_quiet_step ((go_at_call 56; exact lat_of (CR _).out)))
                refine wpQuiet_nil ?_
                intro _ hw'
                obtain ⟨xl, hw''⟩ := hw'
                subst hw''
                have hb4 := Lib.hid xl.below
                clear hA3 hB3 hp3
                all_goals (try go_wp2_with fail)
                all_goals go_ret
                all_goals exact ⟨by rw [hbd.out]; rfl, hbH.out.trans (hb4.out.mono hgw.out)⟩
        · have hkn' : k = n := by omega
          subst hkn'
          have hall : namesOk l = decide (l.length ≤ 128) := namesOk_good (by rw [← hN.out]; exact hok)
          have hre := Lib.hid (show r = (decide (1 ≤ v2) && (decide (v2 ≤ 4) && (!decide (v2 = 2) || (!decide (p.toList = []) && decide (p.size ≤ 12000))))) from hr.out.trans (good_end q4 ⟨q0, q1⟩ ⟨q2, q3⟩ q5 q6 q7 (by rw [← hN.out]; exact hb3.out.symm) hall))
          clear hok hb hlet hall
          by_cases e1 : 1 ≤ v2
          · by_cases e4 : v2 ≤ 4
            · by_cases e2 : v2 = 2
              · subst e2
                by_cases ep : p.toList = []
                · have hf := Lib.hid (show r = false by rw [hre.out]; simp [ep])
                  go_wp2_with fail
                  go_ret
                  exact ⟨by rw [hf.out]; rfl, hbH.out⟩
                · have es : decide ((p.size : Int) ≤ 12000) = decide (p.size ≤ 12000) := by rw [decide_eq_decide]; omega
                  have hf := Lib.hid (show r = (!p.toList.isEmpty && decide (p.size ≤ 12000)) by rw [hre.out]; simp [ep])
                  go_wp2_with fail
                  go_ret
                  exact ⟨by rw [hf.out]; rfl, hbH.out⟩
              · have hf := Lib.hid (show r = true by rw [hre.out, decide_eq_true e1, decide_eq_true e4, decide_eq_false e2]; rfl)
                go_wp2_with fail
                go_ret
                exact ⟨by rw [hf.out]; rfl, hbH.out⟩
            · have hf := Lib.hid (show r = false by rw [hre.out, decide_eq_false e4, Bool.false_and, Bool.and_false])
              go_wp2_with fail
              go_ret
              exact ⟨by rw [hf.out]; rfl, hbH.out⟩
          · have hf := Lib.hid (show r = false by rw [hre.out, decide_eq_false e1, Bool.false_and])
            go_wp2_with fail
            go_ret
            exact ⟨by rw [hf.out]; rfl, hbH.out⟩
end Go.Proofs.YtbefkoljcacpcaaGreatDoor.Wi
set_option linter.unusedVariables false
namespace Go.Proofs.YtbefkoljcacpcaaGreatDoor.Tm
open Go Go.Lib
def isD (c : UInt8) : Prop := 48 ≤ c.toNat ∧ c.toNat ≤ 57
theorem val_le_append : ∀ (b a : List UInt8), val a ≤ val (a ++ b)
  | [], a => by simp
  | c :: b, a => by
    have h := val_le_append b (a ++ [c])
    rw [List.append_assoc] at h
    rw [val_snoc] at h
    have e : [c] ++ b = c :: b := rfl
    rw [e] at h
    omega
theorem dec_head_zero (m : Nat) (r : List UInt8) (h : decDigits m = 48 :: r) : m = 0 := by
  induction m using Nat.strongRecOn generalizing r with
  | _ m ih =>
    rw [decDigits] at h
    split at h
    · rename_i hlt
      injection h with h1 _
      have h2 := congrArg UInt8.toNat h1
      rw [UInt8.toNat_ofNat'] at h2
      have : (48 : UInt8).toNat = 48 := rfl
      omega
    · have hne := dec_ne (m / 10)
      obtain ⟨c, q, hq⟩ := List.exists_cons_of_ne_nil hne
      rw [hq, List.cons_append] at h
      injection h with h1 _
      have := ih (m / 10) (by omega) q (by rw [hq, h1])
      omega
theorem digs_at {s : List UInt8} {m k : Nat} {x : List UInt8} (h : s = decDigits m ++ 58 :: x) (hk : ∀ j, j < k → ∀ c, s[j]? = some c → isD c) (hks : k ≤ s.length) : k ≤ (decDigits m).length := by
  by_cases hc : k ≤ (decDigits m).length
  · exact hc
  · exfalso
    have h1 := hk (decDigits m).length (by omega) 58 (by rw [h, List.getElem?_append_right (Nat.le_refl _), Nat.sub_self]; rfl)
    unfold isD at h1
    simp at h1
theorem digs_pre {s : List UInt8} {m k : Nat} {x : List UInt8} (h : s = decDigits m ++ 58 :: x) (hk : k ≤ (decDigits m).length) : s.take k = (decDigits m).take k := by
  rw [h, List.take_append_of_le_length hk]
theorem digs_val {s : List UInt8} {m k : Nat} {x : List UInt8} (h : s = decDigits m ++ 58 :: x) (hk : k ≤ (decDigits m).length) : val (s.take k) ≤ m := by
  rw [digs_pre h hk]
  have := val_le_append ((decDigits m).drop k) ((decDigits m).take k)
  rw [List.take_append_drop, val_dec] at this
  exact this
theorem digs_end {s : List UInt8} {m k : Nat} {x : List UInt8} (h : s = decDigits m ++ 58 :: x) (hk : k ≤ (decDigits m).length) (c : UInt8) (hc : s[k]? = some c) (hn : ¬ isD c) :
    c = 58 ∧ 0 < k ∧ s.take k = decDigits m ∧ s.drop (k + 1) = x := by
  have e : k = (decDigits m).length := by
    by_cases e : k = (decDigits m).length
    · exact e
    · exfalso
      have hlt : k < (decDigits m).length := by omega
      rw [h, List.getElem?_append_left hlt, List.getElem?_eq_getElem hlt] at hc
      exact hn (dec_digit m c (by rw [← Option.some.inj hc]; exact List.getElem_mem hlt))
  subst e
  rw [h, List.getElem?_append_right (Nat.le_refl _), Nat.sub_self] at hc
  refine ⟨(Option.some.inj hc).symm, List.length_pos_iff.2 (dec_ne m), ?_, ?_⟩
  · rw [h, List.take_left']
    rfl
  · rw [h, List.drop_append, List.drop_of_length_le (by omega), Nat.add_sub_cancel_left]
    rfl
theorem digs_full {s : List UInt8} {m k : Nat} {x : List UInt8} (h : s = decDigits m ++ 58 :: x) (hk : k ≤ (decDigits m).length) : k < s.length := by
  rw [h, List.length_append, List.length_cons]
  omega
theorem digs_zero {s : List UInt8} {m : Nat} {x : List UInt8} (h : s = decDigits m ++ 58 :: x) (h0 : s[0]? = some 48) : s[1]? = some 58 := by
  obtain ⟨c, q, hq⟩ := List.exists_cons_of_ne_nil (dec_ne m)
  have hm : m = 0 := by
    refine dec_head_zero m q ?_
    rw [h, hq] at h0
    simp only [List.cons_append, List.getElem?_cons_zero, Option.some.injEq] at h0
    rw [hq, h0]
  subst hm
  rw [h]
  have : decDigits 0 = [48] := by rw [decDigits]; rfl
  rw [this]
  rfl
def LenSpec (s : List UInt8) (n : Int) (ok : Bool) (r : List UInt8) : Prop :=
  r.length ≤ s.length ∧ (ok = true → 0 ≤ n ∧ n ≤ r.length ∧ r.length < s.length) ∧
  ∀ t x, t.length ≤ 65536 → s = decDigits t.length ++ 58 :: (t ++ x) → ok = true ∧ n = t.length ∧ r = t ++ x
def LenInv (s : List UInt8) (k n : Nat) : Prop := k ≤ s.length ∧ n = val (s.take k) ∧ n ≤ 65536 ∧ ∀ j, j < k → ∀ c, s[j]? = some c → isD c
theorem lenInv_zero (s : List UInt8) : LenInv s 0 0 := ⟨Nat.zero_le _, rfl, by omega, fun j hj => absurd hj (by omega)⟩
theorem take_at {s : List UInt8} {k : Nat} {c : UInt8} (h : s[k]? = some c) : s.take (k + 1) = s.take k ++ [c] := by rw [List.take_add_one, h]; rfl
theorem lenInv_step {s : List UInt8} {k n : Nat} {c : UInt8} (h : LenInv s k n) (hc : s[k]? = some c) (hd : isD c) (hn : 10 * n + (c.toNat - 48) ≤ 65536) : LenInv s (k + 1) (10 * n + (c.toNat - 48)) := by
  obtain ⟨h1, h2, h3, h4⟩ := h
  have hk : k < s.length := by
    by_cases hk : k < s.length
    · exact hk
    · rw [List.getElem?_eq_none (by omega)] at hc; cases hc
  refine ⟨by omega, by rw [take_at hc, val_snoc, ← h2], hn, fun j hj d hdj => ?_⟩
  by_cases e : j = k
  · subst e; rw [hc] at hdj; rw [← Option.some.inj hdj]; exact hd
  · exact h4 j (by omega) d hdj
theorem len_big {s : List UInt8} {k n : Nat} {c : UInt8} (h : LenInv s k n) (hc : s[k]? = some c) (hd : isD c) (hn : 65536 < 10 * n + (c.toNat - 48)) (v : Int) : LenSpec s v false s := by
  obtain ⟨h1, h2, h3, h4⟩ := h
  have hk : k < s.length := by
    by_cases hk : k < s.length
    · exact hk
    · rw [List.getElem?_eq_none (by omega)] at hc; cases hc
  refine ⟨Nat.le_refl _, fun h => (by cases h), fun t x ht e => ?_⟩
  exfalso
  have hall : ∀ j, j < k + 1 → ∀ c, s[j]? = some c → isD c := by
    intro j hj d hdj
    by_cases e : j = k
    · subst e; rw [hc] at hdj; rw [← Option.some.inj hdj]; exact hd
    · exact h4 j (by omega) d hdj
  have := digs_val e (digs_at e hall (by omega))
  rw [take_at hc, val_snoc, ← h2] at this
  omega
theorem len_zero {s : List UInt8} (h0 : s[0]? = some 48) (h1 : s[1]? ≠ some 58) (v : Int) : LenSpec s v false s :=
  ⟨Nat.le_refl _, fun h => (by cases h), fun t x ht e => absurd (digs_zero e h0) h1⟩
theorem len_none {s : List UInt8} {k n : Nat} {c : UInt8} (h : LenInv s k n) (hc : s[k]? = some c) (hd : ¬ isD c) (hn : ¬ (c = 58 ∧ 0 < k)) (v : Int) : LenSpec s v false s := by
  obtain ⟨h1, h2, h3, h4⟩ := h
  refine ⟨Nat.le_refl _, fun h => (by cases h), fun t x ht e => ?_⟩
  exfalso
  obtain ⟨e1, e2, _⟩ := digs_end e (digs_at e h4 h1) c hc hd
  exact hn ⟨e1, e2⟩
theorem len_over {s : List UInt8} {n : Nat} (h : LenInv s s.length n) (v : Int) : LenSpec s v false s := by
  obtain ⟨h1, h2, h3, h4⟩ := h
  refine ⟨Nat.le_refl _, fun h => (by cases h), fun t x ht e => ?_⟩
  exfalso
  have := digs_full e (digs_at e h4 h1)
  omega
theorem len_good {s : List UInt8} {k n : Nat} (h : LenInv s k n) (hc : s[k]? = some 58) : LenSpec s n (decide (n ≤ (s.drop (k + 1)).length)) (s.drop (k + 1)) := by
  obtain ⟨h1, h2, h3, h4⟩ := h
  have hk : k < s.length := by
    by_cases hk : k < s.length
    · exact hk
    · rw [List.getElem?_eq_none (by omega)] at hc; cases hc
  refine ⟨by rw [List.length_drop]; omega, fun h => ⟨by omega, by have := of_decide_eq_true h; omega, by rw [List.length_drop]; omega⟩, fun t x ht e => ?_⟩
  obtain ⟨_, _, e3, e4⟩ := digs_end e (digs_at e h4 h1) 58 hc (by unfold isD; simp)
  rw [e3, val_dec] at h2
  rw [e4]
  refine ⟨decide_eq_true (by rw [List.length_append]; omega), by omega, rfl⟩
end Go.Proofs.YtbefkoljcacpcaaGreatDoor.Tm
set_option linter.unusedVariables false
set_option linter.unusedSimpArgs false
namespace Go.Proofs.YtbefkoljcacpcaaGreatDoor.Tm
open Go Go.RowKit Go.Proofs.YtbefkoljcacpcaaGreatDoor.B Go.Proofs.YtbefkoljcacpcaaGreatDoor.Bld Go.Proofs.YtbefkoljcacpcaaGreatDoor.Sha
def RdAt (w : World) (g : Nat) (s : ByteArray) : Prop := w.heap[g]? = some (.cells #[.string s] 145 (0, 0))
theorem rdAt_set {w : World} {g : Nat} {s : ByteArray} (h : RdAt w g s) (r : ByteArray) : RdAt (w.setCell ⟨g, 0, none⟩ (.string r)) g r := heap_set w g 0 (.string r) _ _ _ h
theorem toList_size (s : ByteArray) : s.data.toList.length = s.size := by rw [Array.length_toList]; rfl
theorem getD_some {l : List UInt8} {k : Nat} (h : k < l.length) : l[k]? = some (l.getD k 0) := by rw [List.getD_eq_getElem?_getD, List.getElem?_eq_getElem h]; rfl
theorem extract_toList (s : ByteArray) (a : Nat) : (s.extract a s.size).data.toList = s.data.toList.drop a := by
  rw [Lib.extract_data, List.take_of_length_le]
  rw [List.length_drop, toList_size]
  exact Nat.le_refl _
def LenPost (g : Nat) (s : ByteArray) (w : World) (ev : Ending) (w' : World) : Prop := ∃ n ok r, ev = .returned (.tuple #[.int .i64 n, .bool ok]) ∧ RdAt w' g r ∧ LenSpec s.data.toList n ok r.data.toList ∧ Tch (fun k => k = g) w w'
theorem lenPost_same {g : Nat} {s : ByteArray} {w : World} {n : Int} (h : RdAt w g s) (hl : LenSpec s.data.toList n false s.data.toList) : LenPost g s w (.returned (.tuple #[.int .i64 n, .bool false])) w :=
  ⟨n, false, s, rfl, h, hl, Tch.refl _ _⟩
theorem lenPost_good {g : Nat} {s : ByteArray} {w : World} {k m : Nat} (h : RdAt w g s) (hk : k + 1 ≤ s.size) (hl : LenSpec s.data.toList m (decide (m ≤ (s.data.toList.drop (k + 1)).length)) (s.data.toList.drop (k + 1))) :
    LenPost g s w (.returned (.tuple #[.int .i64 m, .bool (decide (m ≤ s.size - (k + 1)))])) ((w.setCell ⟨g, 0, none⟩ (.string (s.extract (k + 1) s.size))).drew) := by
  refine ⟨_, _, s.extract (k + 1) s.size, rfl, rdAt_set h _, ?_, ((Tch.refl (fun k => k = g) w).setCell ⟨g, 0, none⟩ (fun _ => rfl) _).drew⟩
  rw [extract_toList]
  rw [List.length_drop, toList_size] at hl
  exact hl
set_option maxRecDepth 100000 in
set_option maxHeartbeats 4000000 in
theorem length_c (g : Nat) (s : ByteArray) (w : World) (hg : RdAt w g s) (hs : s.size ≤ 65536) :
    Calls Tryz.prog 83 #[.pointer (some ⟨g, 0, none⟩)] w (LenPost g s w) := by
  have hc0 : w.cell? ⟨g, 0, none⟩ = some (.string s) := by rw [cell_of hg]; rfl
  have hfz : w.frozen? ⟨g, 0, none⟩ = false := fr_of hg 0
  have hgH := Lib.hid hg
  obtain ⟨l, hl⟩ : ∃ l, l = s.data.toList := ⟨_, rfl⟩
  have hsl : l.length = s.size := by rw [hl]; exact toList_size s
  replace hl := Lib.hid hl
  obtain ⟨n, hn⟩ : ∃ n, n = s.size := ⟨_, rfl⟩
  rw [← hn] at hsl hs
  have hsz : (s.size : Int) = (n : Int) := by omega
  replace hsl := Lib.hid hsl
  replace hn := Lib.hid hn
  clear hg
  go_enter Tryz.func83, Tryz.ntmps83
  go_wp2_with fail
  go_loopg [4, 5] n (fun g' v i W => ∃ k m : Nat, g' = n - k ∧ v = .int .i64 m ∧ i = .int .i64 k ∧ LenInv l k m ∧ W = w)
  case atStart => exact ⟨0, 0, rfl, rfl, rfl, lenInv_zero l, rfl⟩
  case round =>
    obtain ⟨k, m, hg', rfl, rfl, hI, rfl⟩ := hrel
    subst hg'
    have hkl := hI.1
    have hm := hI.2.2.1
    rw [hsl.out] at hkl
    have hIH := Lib.hid hI
    clear hI
    by_cases hkn : k < n
    · have hki : (k : Int) < (n : Int) := by omega
      have hix := fun (W : World) => str_idx (P := Tryz.prog) Tryz.underlying9 s k (by rw [← hn.out]; exact hkn) W
      rw [← hl.out] at hix
      have hat := Lib.hid (getD_some (l := l) (k := k) (by rw [hsl.out]; exact hkn))
      generalize l.getD k 0 = a at *
      obtain ⟨b, hb⟩ : ∃ b, b = a.toNat := ⟨_, rfl⟩
      have hb256 : b < 256 := by rw [hb]; exact a.toNat_lt
      rw [← hb] at hix
      replace hb := Lib.hid hb
      have hki64 : (k : Int) ≤ 65536 := by omega
      by_cases hd : 48 ≤ b ∧ b ≤ 57
      · obtain ⟨hd1, hd2⟩ := hd
        have hdH := Lib.hid (show isD a by unfold isD; rw [← hb.out]; exact ⟨hd1, hd2⟩)
        have hstep := Lib.hid (show 10 * m + (b - 48) ≤ 65536 → LenInv l (k + 1) (10 * m + (b - 48)) from fun h => by rw [hb.out] at h ⊢; exact lenInv_step hIH.out hat.out hdH.out h)
        have hbig := Lib.hid (show 65536 < 10 * m + (b - 48) → LenSpec l 0 false l from fun h => by rw [hb.out] at h; exact len_big hIH.out hat.out hdH.out h 0)
        have g1 : (48 : Int) ≤ (b : Int) := by omega
        have g2 : (b : Int) ≤ 57 := by omega
        have gw : ((b : Int) - 48) % 256 = (b : Int) - 48 := by omega
        have gs : (((10 * m + (b - 48) : Nat)) : Int) = (m : Int) * 10 + ((b : Int) - 48) := by omega
        replace gs := Lib.hid gs
        by_cases hz : k = 0 ∧ b = 48
        · obtain ⟨hk0, hb0⟩ := hz
          have gk : ((k : Int) == 0) = true := by rw [beq_iff_eq]; omega
          have gz : ((b : Int) == 48) = true := by rw [beq_iff_eq]; omega
          have hat0 := Lib.hid (show l[0]? = some 48 by have := hat.out; rw [hk0] at this; rw [this]; congr 1; exact UInt8.toNat_inj.1 (by rw [← hb.out, hb0]; rfl))
          replace hb0 := Lib.hid hb0
          replace hk0 := Lib.hid hk0
          by_cases h2 : n < 2
          · have hsp := Lib.hid (len_zero hat0.out (by rw [List.getElem?_eq_none (by rw [hsl.out]; omega)]; simp) 0)
            have q2 : (n : Int) < 2 := by omega
            go_wp2_with fail
            go_ret2
            exact lenPost_same hgH.out (by rw [← hl.out]; exact hsp.out)
          · have q2 : ¬ (n : Int) < 2 := by omega
            have h1s : 1 < s.size := by rw [← hn.out]; omega
            obtain ⟨c, hc⟩ : ∃ c, c = s[1]'h1s := ⟨_, rfl⟩
            have hl1 : l[1]? = some c := by rw [hl.out, hc, Array.getElem?_toList, Array.getElem?_eq_getElem h1s]; rfl
            by_cases h58 : c = 58
            · have q58 : (((s[1]'h1s).toNat : Int) != 58) = false := by rw [← hc, h58]; rfl
              have hmb : 10 * m + (b - 48) ≤ 65536 := by
                have := hIH.out.2.1
                rw [hk0.out] at this
                have e : val (l.take 0) = 0 := rfl
                have := hb0.out
                omega
              have q1 : ¬ (65536 : Int) < (m : Int) * 10 + ((b : Int) - 48) := by omega
              have hs1 := Lib.hid (hstep.out hmb)
              clear hmb hc hl1 h58
              go_wp2_with fail
              go_roundg (n - (k + 1))
              case measure => omega
              case rel => exact ⟨k + 1, _, rfl, by rw [gs.out], by go_num, hs1.out, rfl⟩
            · have q58 : (((s[1]'h1s).toNat : Int) != 58) = true := by
                rw [← hc, bne_iff_ne]
                intro h
                exact h58 (UInt8.toNat_inj.1 (by have : ((58 : UInt8).toNat : Int) = 58 := rfl; omega))
              have hsp := Lib.hid (len_zero hat0.out (by rw [hl1]; simpa using h58) 0)
              clear hc hl1 h58
              go_wp2_with fail
              go_ret2
              exact lenPost_same hgH.out (by rw [← hl.out]; exact hsp.out)
        · have gz2 : ((k : Int) == 0) = false ∨ ((b : Int) == 48) = false := by
            by_cases h : k = 0
            · right; rw [beq_eq_false_iff_ne]; intro h2; exact hz ⟨h, by omega⟩
            · left; rw [beq_eq_false_iff_ne]; omega
          clear hz
          rcases gz2 with gz | gz
          · by_cases hbg : 65536 < 10 * m + (b - 48)
            · have hsp := Lib.hid (hbig.out hbg)
              have q1 : (65536 : Int) < (m : Int) * 10 + ((b : Int) - 48) := by omega
              clear hbg
              go_wp2_with fail
              go_ret2
              exact lenPost_same hgH.out (by rw [← hl.out]; exact hsp.out)
            · have q1 : ¬ (65536 : Int) < (m : Int) * 10 + ((b : Int) - 48) := by omega
              have hs1 := Lib.hid (hstep.out (by omega))
              clear hbg
              go_wp2_with fail
              go_roundg (n - (k + 1))
              case measure => omega
              case rel => exact ⟨k + 1, _, rfl, by rw [gs.out], by go_num, hs1.out, rfl⟩
          · by_cases gk : ((k : Int) == 0) = true
            · by_cases hbg : 65536 < 10 * m + (b - 48)
              · have hsp := Lib.hid (hbig.out hbg)
                have q1 : (65536 : Int) < (m : Int) * 10 + ((b : Int) - 48) := by omega
                clear hbg
                go_wp2_with fail
                go_ret2
                exact lenPost_same hgH.out (by rw [← hl.out]; exact hsp.out)
              · have q1 : ¬ (65536 : Int) < (m : Int) * 10 + ((b : Int) - 48) := by omega
                have hs1 := Lib.hid (hstep.out (by omega))
                clear hbg
                go_wp2_with fail
                go_roundg (n - (k + 1))
                case measure => omega
                case rel => exact ⟨k + 1, _, rfl, by rw [gs.out], by go_num, hs1.out, rfl⟩
            · replace gk : ((k : Int) == 0) = false := by simpa using gk
              by_cases hbg : 65536 < 10 * m + (b - 48)
              · have hsp := Lib.hid (hbig.out hbg)
                have q1 : (65536 : Int) < (m : Int) * 10 + ((b : Int) - 48) := by omega
                clear hbg
                go_wp2_with fail
                go_ret2
                exact lenPost_same hgH.out (by rw [← hl.out]; exact hsp.out)
              · have q1 : ¬ (65536 : Int) < (m : Int) * 10 + ((b : Int) - 48) := by omega
                have hs1 := Lib.hid (hstep.out (by omega))
                clear hbg
                go_wp2_with fail
                go_roundg (n - (k + 1))
                case measure => omega
                case rel => exact ⟨k + 1, _, rfl, by rw [gs.out], by go_num, hs1.out, rfl⟩
      · have hdH := Lib.hid (show ¬ isD a by unfold isD; rw [← hb.out]; exact hd)
        have gz : ((b : Int) == 48) = false := by rw [beq_eq_false_iff_ne]; omega
        have gd : (48 : Int) ≤ (b : Int) → ¬ (b : Int) ≤ 57 := by omega
        by_cases hc58 : b = 58 ∧ 0 < k
        · obtain ⟨hb58, hk0⟩ := hc58
          have ha58 := Lib.hid (show l[k]? = some 58 by rw [hat.out]; congr 1; exact UInt8.toNat_inj.1 (by rw [← hb.out, hb58]; rfl))
          have hgood := Lib.hid (len_good hIH.out ha58.out)
          have q1 : ((b : Int) == 58) = true := by rw [beq_iff_eq]; omega
          have q2 : (48 : Int) ≤ (b : Int) := by omega
          have q3 : ¬ (b : Int) ≤ 57 := by omega
          have q4 : (0 : Int) < (k : Int) := by omega
          have q5 : (k : Int) + 1 ≤ (n : Int) := by omega
          clear gd hb58
          go_wp2_with fail
          go_region
          go_wp2_with fail
          go_ret2
          exact lenPost_good hgH.out (by omega) (by rw [← hl.out]; exact hgood.out)
        · have hsp := Lib.hid (len_none hIH.out hat.out hdH.out (by rintro ⟨e, h⟩; exact hc58 ⟨by rw [hb.out, e]; rfl, h⟩) 0)
          have q4 : ((b : Int) == 58) = true → ¬ (0 : Int) < (k : Int) := by intro h h2; rw [beq_iff_eq] at h; exact hc58 ⟨by omega, by omega⟩
          clear hc58
          by_cases q1 : (48 : Int) ≤ (b : Int)
          · have q3 := gd q1
            clear gd
            by_cases q5 : ((b : Int) == 58) = true
            · have q6 := q4 q5
              clear q4
              go_wp2_with fail
              all_goals (go_ret2; exact lenPost_same hgH.out (by rw [← hl.out]; exact hsp.out))
            · replace q5 : ((b : Int) == 58) = false := by simpa using q5
              clear q4
              go_wp2_with fail
              all_goals (go_ret2; exact lenPost_same hgH.out (by rw [← hl.out]; exact hsp.out))
          · have q5 : ((b : Int) == 58) = true ∨ ((b : Int) == 58) = false := by cases h : ((b : Int) == 58) <;> simp
            clear gd
            rcases q5 with q5 | q5
            · have q6 := q4 q5
              clear q4
              go_wp2_with fail
              all_goals (go_ret2; exact lenPost_same hgH.out (by rw [← hl.out]; exact hsp.out))
            · clear q4
              go_wp2_with fail
              all_goals (go_ret2; exact lenPost_same hgH.out (by rw [← hl.out]; exact hsp.out))
    · have hkn' : k = n := by omega
      subst hkn'
      have hki : ¬ (k : Int) < (k : Int) := by omega
      go_wp2_with fail
      go_ret2
      exact lenPost_same hgH.out (by rw [← hl.out]; exact len_over (by rw [hsl.out]; exact hIH.out) 0)
end Go.Proofs.YtbefkoljcacpcaaGreatDoor.Tm
