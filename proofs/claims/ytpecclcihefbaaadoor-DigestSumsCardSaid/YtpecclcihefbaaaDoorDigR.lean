/- The walk of digest.Raw and digest.Right. -/
import Derived.Test.YtpecclcihefbaaaDoorDigH
import Derived.Test.YtpecclcihefbaaaDoorShelf
import Derived.Shelf.Strings.SlTrimAscii
import Derived.StillTailTactics
import Derived.IntWalk
import Derived.Deep.RegionHeld3
set_option linter.unusedVariables false
set_option linter.unusedSimpArgs false
namespace Go.Proofs.YtpecclcihefbaaaDoor.Dig
open Go Go.RowKit Go.Proofs.YtpecclcihefbaaaDoor.B Go.Proofs.YtpecclcihefbaaaDoor.Sha
open Go.Proofs.YtpecclcihefbaaaDoor.Lin (bs bs_data bs_of bs_size size_list)

def digs : List UInt8 := [48, 49, 50, 51, 52, 53, 54, 55, 56, 57, 97, 98, 99, 100, 101, 102]
theorem digs_dv (c : UInt8) : digs.contains c = (dv c).isSome := by
  have : ∀ n : Fin 256, digs.contains (UInt8.ofFin n) = (dv (UInt8.ofFin n)).isSome := by decide +kernel
  exact this c.toFin
theorem digs_index (c : UInt8) (n : Nat) (h : dv c = some n) : Lib.indexByte digs c = (n : Int) := by
  have : ∀ n : Fin 256, (match dv (UInt8.ofFin n) with | some k => Lib.indexByte digs (UInt8.ofFin n) == (k : Int) | none => true) = true := by decide +kernel
  have h2 := this c.toFin
  rw [show UInt8.ofFin c.toFin = c from rfl, h] at h2
  exact beq_iff_eq.1 h2
theorem dropWhile_all {α : Type} (p : α → Bool) : ∀ l : List α, l.dropWhile p = [] ↔ l.all p = true
  | [] => by simp
  | a :: l => by
    rw [List.dropWhile_cons, List.all_cons]
    cases h : p a with
    | true => simpa using dropWhile_all p l
    | false => simp
theorem all_reverse' (p : UInt8 → Bool) (l : List UInt8) : l.reverse.all p = l.all p := by
  rw [Bool.eq_iff_iff, List.all_eq_true, List.all_eq_true]
  simp
theorem trim_empty (l : List UInt8) : Lib.trimS l digs = [] ↔ allD l = true := by
  have e : allD l = l.all (digs.contains ·) := by
    unfold allD
    congr 1
    funext c
    exact (digs_dv c).symm
  rw [e]
  unfold Lib.trimS Lib.trimLeftS Lib.trimRightS
  rw [dropWhile_all, all_reverse']
  constructor
  · intro h
    by_cases ha : l.all (digs.contains ·) = true
    · exact ha
    · -- the last one that is none stays
      exfalso
      rw [← all_reverse'] at ha
      have hne : l.reverse.dropWhile (digs.contains ·) ≠ [] := fun h0 => ha ((dropWhile_all _ _).1 h0)
      obtain ⟨x, r, hx⟩ := List.exists_cons_of_ne_nil hne
      have hp : digs.contains x = false := by
        have := List.head?_dropWhile_not (digs.contains ·) l.reverse
        rw [hx] at this
        exact this
      rw [hx, List.all_cons, hp] at h
      simp at h
  · intro h
    rw [← all_reverse', ← dropWhile_all] at h
    rw [h]; rfl

def rawE (r : Option (List UInt8)) : Value := match r with
  | some _ => .nilIface
  | none => .iface 53 (.int .i64 4)
def RawPost (l : List UInt8) (w : World) (e : Ending) (w' : World) : Prop := e = .returned (.tuple #[.string (rawR l).1, rawE (rawL l)]) ∧ Below w.heap.size w w'
theorem rawPost_none {l : List UInt8} {w w' : World} (h : rawL l = none) (hb : Below w.heap.size w w') : RawPost l w (.returned (.tuple #[.string ⟨#[]⟩, .iface 53 (.int .i64 4)])) w' := by
  unfold RawPost rawR rawE; rw [h]; exact ⟨rfl, hb⟩
theorem rawPost_some {l r : List UInt8} {w w' : World} (h : rawL l = some r) (hb : Below w.heap.size w w') : RawPost l w (.returned (.tuple #[.string (bs r), .nilIface])) w' := by
  unfold RawPost rawR rawE; rw [h]; exact ⟨rfl, hb⟩

theorem trim_any (s : ByteArray) (hs : s.size ≤ 1000000) (w : World) :
    Calls Tryd.prog 40 #[.string s, .string ⟨#[48, 49, 50, 51, 52, 53, 54, 55, 56, 57, 97, 98, 99, 100, 101, 102]⟩] w fun e w' => e = .returned (.string (bs (Lib.trimS s.data.toList digs))) ∧ Below w.heap.size w w' :=
  Any.strings_Trim_laid Tryd.lays160 (by kernel_rfl) s ⟨#[48, 49, 50, 51, 52, 53, 54, 55, 56, 57, 97, 98, 99, 100, 101, 102]⟩ w (by omega) (by decide) (ascii_of_all (by decide))

theorem raw_odd (s : ByteArray) (hs : s.size ≤ 1000000) (w : World) (h : ¬ s.size % 2 = 0) : Calls Tryd.prog 27 #[.string s] w (RawPost s.data.toList w) := by
  have hN := Lib.hid (rawL_odd (l := s.data.toList) (by rw [size_list]; exact h))
  have hsi : (s.size : Int) ≤ 1000000 := by omega
  have h1 : (((s.size : Int) % 2) != 0) = true := by rw [bne_iff_ne]; omega
  clear h
  go_enter Tryd.func27, Tryd.ntmps27
  go_wp2_with fail
  go_ret2
  exact rawPost_none hN.out (Below.refl _ _)
theorem raw_notD (s : ByteArray) (hs : s.size ≤ 1000000) (w : World) (h : s.size % 2 = 0) (hd : allD s.data.toList = false) : Calls Tryd.prog 27 #[.string s] w (RawPost s.data.toList w) := by
  have hN := Lib.hid (rawL_notD hd)
  have hsi : (s.size : Int) ≤ 1000000 := by omega
  have h1 : (((s.size : Int) % 2) != 0) = false := by rw [bne_eq_false_iff_eq]; omega
  have C := trim_any s hs w
  have hne : Lib.trimS s.data.toList digs ≠ [] := fun e => by rw [(trim_empty _).1 e] at hd; cases hd
  obtain ⟨x, r, hx⟩ := List.exists_cons_of_ne_nil hne
  have hz : (bs (Lib.trimS s.data.toList digs)).toList = x :: r := by rw [ByteArray.toList_eq, bs_data, hx]
  generalize bs (Lib.trimS s.data.toList digs) = t at *
  have hz1 : t.toList.isEmpty = false := by rw [hz]; rfl
  have hz2 : ¬ t.toList = [] := by rw [hz]; simp
  have CH := Lib.hid C
  clear C hne hx hd h hz
  go_enter Tryd.func27, Tryd.ntmps27
  go_wp2_with fail
  refine (CH.out).mono ?_
  rintro e w1 ⟨rfl, hb⟩
  replace hb := Lib.hid hb
  go_wp2_with fail
  go_ret2
  exact rawPost_none hN.out hb.out

theorem index_dig (a : UInt8) (x : Nat) (h : dv a = some x) (W : World) :
    Calls Tryd.prog 41 #[.string ⟨#[48, 49, 50, 51, 52, 53, 54, 55, 56, 57, 97, 98, 99, 100, 101, 102]⟩, .int .u8 (a.toNat : Int)] W fun e w' => e = .returned (.int .i64 (x : Int)) ∧ W = w' := by
  have := Tryd.strings_IndexByte ⟨#[48, 49, 50, 51, 52, 53, 54, 55, 56, 57, 97, 98, 99, 100, 101, 102]⟩ (a.toNat : Int) W
  rw [show ((a.toNat : Int)).toNat.toUInt8 = a from by simp, show (⟨#[48, 49, 50, 51, 52, 53, 54, 55, 56, 57, 97, 98, 99, 100, 101, 102]⟩ : ByteArray).data.toList = digs from rfl, digs_index a x h] at this
  exact this.mono fun e w' ⟨h1, h2⟩ => ⟨h1, h2.symm⟩

theorem byte_val {x y : Nat} (hx : x < 16) (hy : y < 16) : IntKind.u8.wrap (bits .or .i64 (IntKind.i64.wrap ((x : Int) * 16)) (y : Int)) = (((UInt8.ofNat (16 * x + y)).toNat : Nat) : Int) := by
  have : ∀ x y : Fin 16, IntKind.u8.wrap (bits .or .i64 (IntKind.i64.wrap ((x.val : Int) * 16)) (y.val : Int)) = (((UInt8.ofNat (16 * x.val + y.val)).toNat : Nat) : Int) := by decide +kernel
  exact this ⟨x, hx⟩ ⟨y, hy⟩

theorem rawL_at : ∀ (l r : List UInt8), rawL l = some r → ∀ j, j < r.length → ∃ x y, dv (l.getD (2 * j) 0) = some x ∧ dv (l.getD (2 * j + 1) 0) = some y ∧ r.getD j 0 = UInt8.ofNat (16 * x + y)
  | [], r, h, j, hj => by cases h; simp at hj
  | [_], r, h, j, hj => by cases h
  | a :: b :: l, r, h, j, hj => by
    rw [rawL_two] at h
    split at h
    · rename_i c r' h1 h2
      cases h
      cases j with
      | zero =>
        unfold pair at h1
        split at h1
        · rename_i x y hx hy
          exact ⟨x, y, hx, hy, (Option.some.inj h1).symm⟩
        · cases h1
      | succ j =>
        obtain ⟨x, y, h3, h4, h5⟩ := rawL_at l r' h2 j (by simpa using hj)
        refine ⟨x, y, ?_, ?_, ?_⟩
        · rw [show 2 * (j + 1) = 2 * j + 1 + 1 from by omega]; simpa using h3
        · rw [show 2 * (j + 1) + 1 = 2 * j + 1 + 1 + 1 from by omega]; simpa using h4
        · simpa using h5
    · cases h

set_option maxRecDepth 100000 in
set_option maxHeartbeats 2000000 in
theorem raw_good (s : ByteArray) (hs : s.size ≤ 1000000) (w : World) (h : s.size % 2 = 0) (hd : allD s.data.toList = true) : Calls Tryd.prog 27 #[.string s] w (RawPost s.data.toList w) := by
  obtain ⟨r, hr⟩ := rawL_some hd (by rw [size_list]; exact h)
  have hN := Lib.hid hr
  have hlen : s.size = 2 * r.length := by have := rawL_len _ _ hr; rwa [size_list] at this
  have hat := Lib.hid (rawL_at _ _ hr)
  have hsi : (s.size : Int) ≤ 1000000 := by omega
  have h1 : (((s.size : Int) % 2) != 0) = false := by rw [bne_eq_false_iff_eq]; omega
  have C := trim_any s hs w
  rw [(trim_empty _).2 hd] at C
  have CH := Lib.hid C
  obtain ⟨m, hm⟩ : ∃ m, m = r.length := ⟨_, rfl⟩
  rw [← hm] at hlen
  replace hm := Lib.hid hm
  have hmm : m ≤ 500000 := by omega
  have hsm : (s.size : Int) = 2 * (m : Int) := by omega
  replace hsm := Lib.hid hsm
  replace hlen := Lib.hid hlen
  obtain ⟨i8, hi8, hz8, hs8, hb8⟩ := info8
  clear C hr hd h
  go_enter Tryd.func27, Tryd.ntmps27
  go_wp2_with fail
  refine (CH.out).mono ?_
  rintro e w1 ⟨rfl, hb⟩
  replace hb := Lib.hid hb
  have hown0 := Lib.hid (own_nil w1 w1.heap.size)
  rw [show bs [] = ⟨#[]⟩ from rfl]
  go_wp2_with fail
  go_loopg [4, 5] m (fun g v i W => ∃ j p : Nat, g = m - j ∧ j ≤ m ∧ p = 2 * j ∧ i = .int .i64 p ∧ W.ownsRow w1.heap.size 5 1 v j (bc (r.take j)) ∧ Tch (fun _ => False) w1 W)
  case atStart => exact ⟨0, 0, rfl, by omega, rfl, rfl, hown0.out, Tch.refl _ _⟩
  case round =>
    clear hown0
    obtain ⟨j, p, hgj, hj, hp, rfl, ho, ht⟩ := hrel
    subst hgj
    replace hp := Lib.hid hp
    by_cases hjl : j < m
    · have hji : (p : Int) < (s.size : Int) := by have := hsm.out; have := hp.out; omega
      have hji1 : (p : Int) + 1 < (s.size : Int) := by have := hsm.out; have := hp.out; omega
      have hix := fun (W : World) => str_idx (P := Tryd.prog) Tryd.underlying9 s p (by omega) W
      have hix1 := fun (W : World) => str_idx (P := Tryd.prog) Tryd.underlying9 s (p + 1) (by omega) W
      rw [show ((p + 1 : Nat) : Int) = (p : Int) + 1 from by omega] at hix1
      obtain ⟨x, y, hx, hy, hxy⟩ := hat.out j (by rw [← hm.out]; exact hjl)
      rw [← hp.out] at hx hy
      have hwp : IntKind.i64.wrap ((p : Int) + 1) = (p : Int) + 1 := IntWalk.i64_in _ (by omega)
      generalize s.data.toList.getD p 0 = a at *
      generalize s.data.toList.getD (p + 1) 0 = b at *
      have CA := Lib.hid (index_dig a x hx)
      have CB := Lib.hid (index_dig b y hy)
      have hx16 := dv_lt hx
      have hy16 := dv_lt hy
      have hnx : ∀ (w2 : World) (v : Value) (news : List Value), w2.ownsRow w1.heap.size 5 1 v (j + 1) (bc (r.take j) ++ news) → news = [.int .u8 (IntKind.u8.wrap (bits .or .i64 (IntKind.i64.wrap ((x : Int) * 16)) (y : Int)))] →
          w2.ownsRow w1.heap.size 5 1 v (j + 1) (bc (r.take (j + 1))) := by
        intro w2 v news h1 h2
        subst h2
        rw [byte_val hx16 hy16, ← hxy] at h1
        rw [List.take_add_one, List.getElem?_eq_getElem (by rw [← hm.out]; exact hjl), bc_append]
        rw [List.getD_eq_getElem?_getD, List.getElem?_eq_getElem (by rw [← hm.out]; exact hjl)] at h1
        exact h1
      have hfin := Lib.hid hnx
      clear hnx hx hy hxy
      have hoH := Lib.hid ho
      have htH := Lib.hid ht
      clear ho ht
      go_wp2_with fail
      go_region_held3 (fun W => True) (exact trivial)
        ((first
          | (go_at_call 41; with_reducible refine (CA.out _).mono ?_; rintro e w' ⟨rfl, rfl⟩)
          | (go_at_call 41; with_reducible refine (CB.out _).mono ?_; rintro e w' ⟨rfl, rfl⟩)
          | (refine step_append_lies _ (by rfl) _ _ _ (by rfl) w1.heap.size 5 i8 _ 1 1 Tryd.underlying48 hi8 hz8 hs8 hb8 rfl (by omega) u4 j _ (by rfl) (hoH.out.alloc _).drew ⟨wr.heap.size, 0, none⟩ 1 1 _ (by rfl) (by rfl) (World.news_of_block (heap_alloc_at wr _)) (by simp [Value.oneCell']) (by omega) (by unfold maxLen; omega) (by omega) (by have := htH.out.size; simp; omega) (wr.heap.size + 1) (by simp) ?_; intro g cap2 w2 hown1 hgrow hat2 hlt)))
      all_goals (try go_wp2_with fail)
      all_goals go_roundg (m - (j + 1))
      all_goals first | omega | exact ⟨j + 1, p + 2, rfl, by omega, by have := hp.out; omega, by go_num, hfin.out _ _ _ hown1 rfl, own_tch (htH.out.alloc _) (hoH.out.alloc _) (Nat.le_refl _) (undrew hgrow)⟩
    · have hjm : j = m := by omega
      subst hjm
      have hji : ¬ (p : Int) < (s.size : Int) := by have := hsm.out; have := hp.out; omega
      rw [List.take_of_length_le (by rw [← hm.out]; exact Nat.le_refl _)] at ho
      have hcv := own_conv _ _ _ r (by rw [← hm.out]; exact ho)
      have htH := Lib.hid ht
      clear ho ht
      generalize hout : (⟨r.toArray⟩ : ByteArray) = out at hcv
      replace hout := Lib.hid hout
      go_wp2_with fail
      go_ret2
      rw [← hout.out]
      exact rawPost_some hN.out (hb.out.trans (htH.out.below hb.out.size (fun _ h => h.elim)))

theorem raw_any (s : ByteArray) (hs : s.size ≤ 1000000) (w : World) : Calls Tryd.prog 27 #[.string s] w (RawPost s.data.toList w) := by
  by_cases h : s.size % 2 = 0
  · cases hd : allD s.data.toList with
    | true => exact raw_good s hs w h hd
    | false => exact raw_notD s hs w h hd
  · exact raw_odd s hs w h

def rightOf (l : List UInt8) : Bool := (rawL l).isSome && decide (((rawL l).getD []).length = 32)
theorem right_same (l : List UInt8) : rightOf l = rightL l := by
  unfold rightOf rightL
  cases h : rawL l with
  | none => simp
  | some r =>
    have := rawL_len l r h
    simp only [Option.isSome_some, Option.getD_some, Bool.true_and, Bool.and_true]
    by_cases h2 : r.length = 32
    · rw [decide_eq_true h2, decide_eq_true (by omega)]
    · rw [decide_eq_false h2, decide_eq_false (by omega)]
theorem right_any (s : ByteArray) (hs : s.size ≤ 1000000) (w : World) : Calls Tryd.prog 21 #[.string s] w fun e w' => e = .returned (.bool (rightL s.data.toList)) ∧ Below w.heap.size w w' := by
  rw [← right_same]
  have C := Lib.hid (raw_any s hs w)
  unfold RawPost rawR rightOf at *
  cases h : rawL s.data.toList with
  | none =>
    rw [h] at C
    unfold outR rawE at C
    clear h
    go_enter Tryd.func21, Tryd.ntmps21
    go_wp2_with fail
    refine (C.out).mono ?_
    rintro e w1 ⟨rfl, hb⟩
    replace hb := Lib.hid hb
    go_wp2_with fail
    go_ret
    exact ⟨rfl, hb.out⟩
  | some r =>
    rw [h] at C
    unfold outR rawE at C
    simp only [List.nil_append] at C
    have e : ((some r).isSome && decide (((some r).getD []).length = 32)) = decide ((bs r).size = 32) := by simp [bs_size]
    rw [e]
    clear e
    generalize bs r = t at *
    clear h
    by_cases h32 : t.size = 32
    · have q : ((t.size : Int) == 32) = true := by rw [beq_iff_eq]; omega
      rw [decide_eq_true h32]
      clear h32
      go_enter Tryd.func21, Tryd.ntmps21
      go_wp2_with fail
      refine (C.out).mono ?_
      rintro e w1 ⟨rfl, hb⟩
      replace hb := Lib.hid hb
      go_wp2_with fail
      go_ret
      exact ⟨rfl, hb.out⟩
    · have q : ((t.size : Int) == 32) = false := by rw [beq_eq_false_iff_ne]; omega
      rw [decide_eq_false h32]
      clear h32
      go_enter Tryd.func21, Tryd.ntmps21
      go_wp2_with fail
      refine (C.out).mono ?_
      rintro e w1 ⟨rfl, hb⟩
      replace hb := Lib.hid hb
      go_wp2_with fail
      go_ret
      exact ⟨rfl, hb.out⟩

end Go.Proofs.YtpecclcihefbaaaDoor.Dig
