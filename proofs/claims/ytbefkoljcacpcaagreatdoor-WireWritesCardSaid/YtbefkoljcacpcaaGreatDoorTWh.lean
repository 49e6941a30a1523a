/- What LawWireReads, LawWireWrites, LawWireSpoilt lean on, part h of 15: the texts TmE, TmU, TmV, TmQ, WiL. -/
import Derived.Test.YtbefkoljcacpcaaGreatDoorTWe
import Derived.Test.YtbefkoljcacpcaaGreatDoorTWf
import Derived.Test.YtbefkoljcacpcaaGreatDoorTWg
set_option linter.unusedVariables false
set_option linter.unusedSimpArgs false
namespace Go.Proofs.YtbefkoljcacpcaaGreatDoor.Tm
open Go Go.RowKit Go.Proofs.YtbefkoljcacpcaaGreatDoor.B Go.Proofs.YtbefkoljcacpcaaGreatDoor.Bld Go.Proofs.YtbefkoljcacpcaaGreatDoorW.PrintWords Go.Proofs.YtbefkoljcacpcaaGreatDoorW.PrintLast Go.Proofs.YtbefkoljcacpcaaGreatDoorW.PrintMore
attribute [local go_sem] max2_int max_two
theorem depths_take (l : List F) (k : Nat) (h : k < l.length) : depths (l.take (k + 1)) = max (depths (l.take k)) (l[k]).depth := by
  rw [List.take_add_one, List.getElem?_eq_getElem h, Option.toList_some, depths_append, depths, depths, Nat.max_zero]
theorem depths_take_le (l : List F) (k : Nat) : depths (l.take k) ≤ depths l := by
  have := depths_append (a := l.take k) (b := l.drop k)
  rw [List.take_append_drop] at this
  omega
theorem getelem_le (l : List F) (k : Nat) (h : k < l.length) : (l[k]).bytes.length ≤ (bytess l).length := by
  have h1 := bytess_le l (k + 1)
  rw [bytess_take l k h, List.length_append] at h1
  omega
theorem arr_cat (a b : List UInt8) : (ByteArray.mk a.toArray) ++ (ByteArray.mk b.toArray) = ByteArray.mk (a ++ b).toArray := by
  apply ByteArray.ext
  rw [ByteArray.data_append]
  simp
theorem arr_size (a : List UInt8) : (ByteArray.mk a.toArray).size = a.length := by show a.toArray.size = _; simp
theorem txt_bytes (t : List UInt8) (l : List F) : (F.mk false t l).bytes = Lib.decDigits t.length ++ 58 :: t := by rw [F.bytes]
theorem lst_bytes (t : List UInt8) (l : List F) : (F.mk true t l).bytes = 40 :: (bytess l ++ [41]) := by rw [F.bytes]
def Pright (B : Nat) (f : F) : Prop := ∀ (c0 c1 c2 : Value) (w : World), FV B w f [c0, c1, c2] → B ≤ w.heap.size → f.depth ≤ 8 → f.bytes.length ≤ 65536 →
  Calls Tryz.prog 47 #[.agg #[c0, c1, c2]] w fun ev w' => ev = .returned (.bool true) ∧ Below w.heap.size w w'
set_option maxRecDepth 100000 in
set_option maxHeartbeats 4000000 in
theorem rright_text (B : Nat) (t : List UInt8) : Pright B (.mk false t []) := by
  intro c0 c1 c2 w hf hB hd hlen
  unfold FV at hf
  obtain ⟨A, c, hcs, hc, hll, hfs⟩ := hf
  simp only [List.cons.injEq, and_true] at hcs
  obtain ⟨rfl, rfl, rfl⟩ := hcs
  rw [show ([] : List F).length = 0 from rfl]
  have hd0 : (F.mk false t []).depth = 0 := by rw [F.depth]
  rw [txt_bytes] at hlen
  have hll2 : (Lib.decDigits t.length ++ 58 :: t).length = (Lib.decDigits t.length).length + 1 + t.length := by simp; omega
  rw [hll2] at hlen
  obtain ⟨w0, hw0⟩ : ∃ w0, w0 = w.alloc (.cells #[.bool false, .string ⟨t.toArray⟩, .slice A 0 c] 52) := ⟨_, rfl⟩
  have hb0 : Below w.heap.size w w0 := by rw [hw0]; exact (Below.refl _ _).alloc (Nat.le_refl _) _
  have hx0 : w0.heap[w.heap.size]? = some (.cells #[.bool false, .string ⟨t.toArray⟩, .slice A 0 c] 52 (0, 0)) := by rw [hw0]; exact heap_alloc_at _ _
  obtain ⟨k0, k1, k2, _, _⟩ := blk3 hx0
  have l1 := Lat.cell k1
  have hts : (ByteArray.mk t.toArray).size = t.length := arr_size t
  replace hb0 := Lib.hid hb0
  replace hx0 := Lib.hid hx0
  replace hd0 := Lib.hid hd0
  replace hll2 := Lib.hid hll2
  clear hfs
  go_enter Tryz.func47, Tryz.ntmps47
  go_upto_region 1 with fail
  rw [← hw0]
  replace hw0 := Lib.hid hw0
  go_wp2_with fail
  go_ret
  exact ⟨rfl, hb0.out⟩
set_option maxRecDepth 100000 in
set_option maxHeartbeats 4000000 in
theorem rright_list (B : Nat) (l : List F) (ih : ∀ (k : Nat) (h : k < l.length), Pright B l[k]) : Pright B (.mk true [] l) := by
  intro c0 c1 c2 w hf hB hd hlen
  unfold FV at hf
  obtain ⟨A, c, hcs, hc, hll, hfs⟩ := hf
  simp only [List.cons.injEq, and_true] at hcs
  obtain ⟨rfl, rfl, rfl⟩ := hcs
  have hd0 : (F.mk true [] l).depth = depths l + 1 := by rw [F.depth]
  have hbl : (F.mk true [] l).bytes.length = (bytess l).length + 2 := by rw [lst_bytes]; simp
  rw [hd0] at hd
  rw [hbl] at hlen
  obtain ⟨w0, hw0⟩ : ∃ w0, w0 = w.alloc (.cells #[.bool true, .string ⟨#[]⟩, .slice A l.length c] 52) := ⟨_, rfl⟩
  have hb0 : Below w.heap.size w w0 := by rw [hw0]; exact (Below.refl _ _).alloc (Nat.le_refl _) _
  have hx0 : w0.heap[w.heap.size]? = some (.cells #[.bool true, .string ⟨#[]⟩, .slice A l.length c] 52 (0, 0)) := by rw [hw0]; exact heap_alloc_at _ _
  obtain ⟨k0, k1, k2, _, _⟩ := blk3 hx0
  obtain ⟨n, hn⟩ : ∃ n, n = l.length := ⟨_, rfl⟩
  rw [← hn] at hll hc hw0 hx0 k2 ⊢
  replace hn := Lib.hid hn
  replace hb0 := Lib.hid hb0
  replace hx0 := Lib.hid hx0
  have hfsH := Lib.hid (FVs.below (hb0.out.mono hB) l A 0 hfs)
  have ihH := Lib.hid ih
  replace hd0 := Lib.hid hd0
  have hdH := Lib.hid hd
  have hlenH := Lib.hid hlen
  have hblH := Lib.hid hbl
  clear hfs ih hd hlen hbl
  go_enter Tryz.func47, Tryz.ntmps47
  go_upto_region 1 with fail
  rw [← hw0]
  replace hw0 := Lib.hid hw0
  go_wp2_with fail
  go_loopg [3] n (fun g' i W => ∃ k : Nat, g' = n - k ∧ k ≤ n ∧ i = .int .i64 k ∧ Below w0.heap.size w0 W)
  case atStart => exact ⟨0, rfl, by omega, rfl, Below.refl _ _⟩
  case round =>
    obtain ⟨k, hg', hk, rfl, hb⟩ := hrel
    subst hg'
    have hx := (hb.block _ (heap_lt hx0.out)).trans hx0.out
    obtain ⟨q0, q1, q2, _, _⟩ := blk3 hx
    have hbH := Lib.hid hb
    clear hx
    by_cases hkn : k < n
    · have hki : (k : Int) < (n : Int) := by omega
      have hkl : k < l.length := by rw [← hn.out]; exact hkn
      have hfk := FVs.get (FVs.below (hb.mono (Nat.le_trans hB hb0.out.size)) l A 0 hfsH.out) k hkl
      rw [Nat.zero_add] at hfk
      obtain ⟨b, o, c0, c1, c2, rfl, hbB, h0, h1, h2, hf⟩ := hfk
      have hdl := depths_get (l := l) k hkl
      have hbl := getelem_le l k hkl
      have CP := ihH.out k hkl c0 c1 c2 wr hf (Nat.le_trans hB (Nat.le_trans hb0.out.size hb.size)) (by have := hdH.out; omega) (by have := hlenH.out; omega)
      have CPH := Lib.hid CP
      generalize l[k] = fk at *
      obtain ⟨fb, ft, fl⟩ := fk
      unfold FV at hf
      obtain ⟨A2, cc, hcs, _⟩ := hf
      simp only [List.cons.injEq, and_true] at hcs
      obtain ⟨rfl, rfl, rfl⟩ := hcs
      generalize fl.length = fn at *
      clear CP hb
      go_wp2_with fail
      refine (CPH.out).mono ?_
      rintro ev w3 ⟨rfl, hb3⟩
      replace hb3 := Lib.hid (hbH.out.trans (hb3.mono hbH.out.size))
      go_wp2_with fail
      go_roundg (n - (k + 1))
      case measure => omega
      case rel => exact ⟨k + 1, rfl, by omega, by go_num, hb3.out⟩
    · have hkn' : k = n := by omega
      subst hkn'
      have hki : ¬ (k : Int) < (k : Int) := by omega
      have ht : l.take k = l := List.take_of_length_le (by rw [← hn.out]; exact Nat.le_refl _)
      try rw [ht]
      clear ht
      go_wp2_with fail
      go_ret
      exact ⟨rfl, hb0.out.trans (hbH.out.mono hb0.out.size)⟩
theorem rright_any (B : Nat) : ∀ (n : Nat) (f : F), SizeOf.sizeOf f < n → f.right = true → Pright B f := by
  intro n
  induction n with
  | zero => intro f h; exact absurd h (by omega)
  | succ n ih =>
    rintro ⟨b, x, l⟩ hsz hr
    cases b with
    | true =>
      unfold F.right at hr
      simp only [Bool.and_eq_true] at hr
      have hx : x = [] := by simpa using hr.1
      subst hx
      refine rright_list B l (fun k hk => ih _ ?_ (rights_get hr.2 k hk))
      have := get_size k hk
      have h2 : SizeOf.sizeOf (F.mk true [] l) = 1 + SizeOf.sizeOf true + SizeOf.sizeOf ([] : List UInt8) + SizeOf.sizeOf l := by rw [F.mk.sizeOf_spec]
      omega
    | false =>
      unfold F.right at hr
      have hl0 : l = [] := by simpa using hr
      subst hl0
      exact rright_text B x
def PDepth (B : Nat) (f : F) : Prop := ∀ (c0 c1 c2 : Value) (w : World), FV B w f [c0, c1, c2] → B ≤ w.heap.size → f.depth ≤ 8 → f.bytes.length ≤ 65536 →
  Calls Tryz.prog 48 #[.agg #[c0, c1, c2]] w fun ev w' => ev = .returned (.int .i64 (f.depth : Nat)) ∧ Below w.heap.size w w'
set_option maxRecDepth 100000 in
set_option maxHeartbeats 4000000 in
theorem rDepth_text (B : Nat) (t : List UInt8) : PDepth B (.mk false t []) := by
  intro c0 c1 c2 w hf hB hd hlen
  unfold FV at hf
  obtain ⟨A, c, hcs, hc, hll, hfs⟩ := hf
  simp only [List.cons.injEq, and_true] at hcs
  obtain ⟨rfl, rfl, rfl⟩ := hcs
  rw [show ([] : List F).length = 0 from rfl]
  have hd0 : (F.mk false t []).depth = 0 := by rw [F.depth]
  rw [txt_bytes] at hlen
  have hll2 : (Lib.decDigits t.length ++ 58 :: t).length = (Lib.decDigits t.length).length + 1 + t.length := by simp; omega
  rw [hll2] at hlen
  obtain ⟨w0, hw0⟩ : ∃ w0, w0 = w.alloc (.cells #[.bool false, .string ⟨t.toArray⟩, .slice A 0 c] 52) := ⟨_, rfl⟩
  have hb0 : Below w.heap.size w w0 := by rw [hw0]; exact (Below.refl _ _).alloc (Nat.le_refl _) _
  have hx0 : w0.heap[w.heap.size]? = some (.cells #[.bool false, .string ⟨t.toArray⟩, .slice A 0 c] 52 (0, 0)) := by rw [hw0]; exact heap_alloc_at _ _
  obtain ⟨k0, k1, k2, _, _⟩ := blk3 hx0
  have l1 := Lat.cell k1
  have hts : (ByteArray.mk t.toArray).size = t.length := arr_size t
  replace hb0 := Lib.hid hb0
  replace hx0 := Lib.hid hx0
  replace hd0 := Lib.hid hd0
  replace hll2 := Lib.hid hll2
  clear hfs
  go_enter Tryz.func48, Tryz.ntmps48
  go_upto_region 1 with fail
  rw [← hw0]
  replace hw0 := Lib.hid hw0
  go_wp2_with fail
  go_ret
  exact ⟨by rw [hd0.out]; rfl, hb0.out⟩
set_option maxRecDepth 100000 in
set_option maxHeartbeats 4000000 in
theorem rDepth_list (B : Nat) (l : List F) (ih : ∀ (k : Nat) (h : k < l.length), PDepth B l[k]) : PDepth B (.mk true [] l) := by
  intro c0 c1 c2 w hf hB hd hlen
  unfold FV at hf
  obtain ⟨A, c, hcs, hc, hll, hfs⟩ := hf
  simp only [List.cons.injEq, and_true] at hcs
  obtain ⟨rfl, rfl, rfl⟩ := hcs
  have hd0 : (F.mk true [] l).depth = depths l + 1 := by rw [F.depth]
  have hbl : (F.mk true [] l).bytes.length = (bytess l).length + 2 := by rw [lst_bytes]; simp
  rw [hd0] at hd
  rw [hbl] at hlen
  obtain ⟨w0, hw0⟩ : ∃ w0, w0 = w.alloc (.cells #[.bool true, .string ⟨#[]⟩, .slice A l.length c] 52) := ⟨_, rfl⟩
  have hb0 : Below w.heap.size w w0 := by rw [hw0]; exact (Below.refl _ _).alloc (Nat.le_refl _) _
  have hx0 : w0.heap[w.heap.size]? = some (.cells #[.bool true, .string ⟨#[]⟩, .slice A l.length c] 52 (0, 0)) := by rw [hw0]; exact heap_alloc_at _ _
  obtain ⟨k0, k1, k2, _, _⟩ := blk3 hx0
  obtain ⟨n, hn⟩ : ∃ n, n = l.length := ⟨_, rfl⟩
  rw [← hn] at hll hc hw0 hx0 k2 ⊢
  replace hn := Lib.hid hn
  replace hb0 := Lib.hid hb0
  replace hx0 := Lib.hid hx0
  have hfsH := Lib.hid (FVs.below (hb0.out.mono hB) l A 0 hfs)
  have ihH := Lib.hid ih
  replace hd0 := Lib.hid hd0
  have hdH := Lib.hid hd
  have hlenH := Lib.hid hlen
  have hblH := Lib.hid hbl
  clear hfs ih hd hlen hbl
  go_enter Tryz.func48, Tryz.ntmps48
  go_upto_region 1 with fail
  rw [← hw0]
  replace hw0 := Lib.hid hw0
  go_wp2_with fail
  go_loopg [3, 4] n (fun g' v i W => ∃ k : Nat, g' = n - k ∧ k ≤ n ∧ i = .int .i64 k ∧ v = .int .i64 ((depths (l.take k) : Nat) : Int) ∧ Below w0.heap.size w0 W)
  case atStart => exact ⟨0, rfl, by omega, rfl, rfl, Below.refl _ _⟩
  case round =>
    obtain ⟨k, hg', hk, rfl, rfl, hb⟩ := hrel
    subst hg'
    have hx := (hb.block _ (heap_lt hx0.out)).trans hx0.out
    obtain ⟨q0, q1, q2, _, _⟩ := blk3 hx
    have hbH := Lib.hid hb
    clear hx
    by_cases hkn : k < n
    · have hki : (k : Int) < (n : Int) := by omega
      have hkl : k < l.length := by rw [← hn.out]; exact hkn
      have hfk := FVs.get (FVs.below (hb.mono (Nat.le_trans hB hb0.out.size)) l A 0 hfsH.out) k hkl
      rw [Nat.zero_add] at hfk
      obtain ⟨b, o, c0, c1, c2, rfl, hbB, h0, h1, h2, hf⟩ := hfk
      have hdl := depths_get (l := l) k hkl
      have hbl := getelem_le l k hkl
      have CP := ihH.out k hkl c0 c1 c2 wr hf (Nat.le_trans hB (Nat.le_trans hb0.out.size hb.size)) (by have := hdH.out; omega) (by have := hlenH.out; omega)
      have hstep := Lib.hid (depths_take l k hkl)
      have hle := depths_take_le l (k + 1)
      rw [hstep.out] at hle
      have hd8 := hdH.out
      generalize hdk : (l[k]).depth = dk at *
      generalize hda : depths (l.take k) = da at *
      replace hdk := Lib.hid hdk
      have CPH := Lib.hid CP
      generalize l[k] = fk at *
      obtain ⟨fb, ft, fl⟩ := fk
      unfold FV at hf
      obtain ⟨A2, cc, hcs, _⟩ := hf
      simp only [List.cons.injEq, and_true] at hcs
      obtain ⟨rfl, rfl, rfl⟩ := hcs
      generalize fl.length = fn at *
      clear CP hb
      go_wp2_with fail
      refine (CPH.out).mono ?_
      rintro ev w3 ⟨rfl, hb3⟩
      replace hb3 := Lib.hid (hbH.out.trans (hb3.mono hbH.out.size))
      by_cases hlt : (da : Int) < (dk : Int)
      · have hmx := Lib.hid (show max da dk = dk by omega)
        go_wp2_with fail
        go_roundg (n - (k + 1))
        case measure => omega
        case rel => exact ⟨k + 1, rfl, by omega, by go_num, by rw [hstep.out, hmx.out], hb3.out⟩
      · have hmx := Lib.hid (show max da dk = da by omega)
        go_wp2_with fail
        go_roundg (n - (k + 1))
        case measure => omega
        case rel => exact ⟨k + 1, rfl, by omega, by go_num, by rw [hstep.out, hmx.out], hb3.out⟩
    · have hkn' : k = n := by omega
      subst hkn'
      have hki : ¬ (k : Int) < (k : Int) := by omega
      have ht : l.take k = l := List.take_of_length_le (by rw [← hn.out]; exact Nat.le_refl _)
      try rw [ht]
      clear ht
      have hd8 := hdH.out
      have hfin := Lib.hid (show (((F.mk true [] l).depth : Nat) : Int) = (depths l : Int) + 1 by rw [hd0.out]; omega)
      generalize depths l = dl at *
      go_wp2_with fail
      go_ret
      exact ⟨by rw [hfin.out]; rfl, hb0.out.trans (hbH.out.mono hb0.out.size)⟩
theorem rDepth_any (B : Nat) : ∀ (n : Nat) (f : F), SizeOf.sizeOf f < n → f.right = true → PDepth B f := by
  intro n
  induction n with
  | zero => intro f h; exact absurd h (by omega)
  | succ n ih =>
    rintro ⟨b, x, l⟩ hsz hr
    cases b with
    | true =>
      unfold F.right at hr
      simp only [Bool.and_eq_true] at hr
      have hx : x = [] := by simpa using hr.1
      subst hx
      refine rDepth_list B l (fun k hk => ih _ ?_ (rights_get hr.2 k hk))
      have := get_size k hk
      have h2 : SizeOf.sizeOf (F.mk true [] l) = 1 + SizeOf.sizeOf true + SizeOf.sizeOf ([] : List UInt8) + SizeOf.sizeOf l := by rw [F.mk.sizeOf_spec]
      omega
    | false =>
      unfold F.right at hr
      have hl0 : l = [] := by simpa using hr
      subst hl0
      exact rDepth_text B x
def Psize (B : Nat) (f : F) : Prop := ∀ (c0 c1 c2 : Value) (w : World), FV B w f [c0, c1, c2] → B ≤ w.heap.size → f.depth ≤ 8 → f.bytes.length ≤ 65536 →
  Calls Tryz.prog 49 #[.agg #[c0, c1, c2]] w fun ev w' => ev = .returned (.int .i64 (f.bytes.length : Nat)) ∧ Below w.heap.size w w'
set_option maxRecDepth 100000 in
set_option maxHeartbeats 4000000 in
theorem rsize_text (B : Nat) (t : List UInt8) : Psize B (.mk false t []) := by
  intro c0 c1 c2 w hf hB hd hlen
  unfold FV at hf
  obtain ⟨A, c, hcs, hc, hll, hfs⟩ := hf
  simp only [List.cons.injEq, and_true] at hcs
  obtain ⟨rfl, rfl, rfl⟩ := hcs
  rw [show ([] : List F).length = 0 from rfl]
  have hd0 : (F.mk false t []).depth = 0 := by rw [F.depth]
  rw [txt_bytes] at hlen
  have hll2 : (Lib.decDigits t.length ++ 58 :: t).length = (Lib.decDigits t.length).length + 1 + t.length := by simp; omega
  rw [hll2] at hlen
  obtain ⟨w0, hw0⟩ : ∃ w0, w0 = w.alloc (.cells #[.bool false, .string ⟨t.toArray⟩, .slice A 0 c] 52) := ⟨_, rfl⟩
  have hb0 : Below w.heap.size w w0 := by rw [hw0]; exact (Below.refl _ _).alloc (Nat.le_refl _) _
  have hx0 : w0.heap[w.heap.size]? = some (.cells #[.bool false, .string ⟨t.toArray⟩, .slice A 0 c] 52 (0, 0)) := by rw [hw0]; exact heap_alloc_at _ _
  obtain ⟨k0, k1, k2, _, _⟩ := blk3 hx0
  have l1 := Lat.cell k1
  have hts : (ByteArray.mk t.toArray).size = t.length := arr_size t
  have CD := fun (y : Lat w0) => Lib.hid (digits_c (t.length : Int) (by omega) (by omega) y.val)
  rw [Lib.itoa_nonneg] at CD
  have hds := arr_size (Lib.decDigits t.length)
  have hres := Lib.hid (show ((F.mk false t []).bytes.length : Int) = ((Lib.decDigits t.length).length : Int) + 1 + (t.length : Int) by rw [txt_bytes, hll2]; omega)
  generalize Lib.decDigits t.length = dd at *
  generalize ht : ByteArray.mk t.toArray = tt at *
  generalize hdd : ByteArray.mk dd.toArray = du at *
  have htl : (tt.size : Int) = (t.length : Int) := by omega
  have hdl : (du.size : Int) = (dd.length : Int) := by omega
  generalize t.length = tn at *
  generalize dd.length = dn at *
  replace ht := Lib.hid ht
  replace hdd := Lib.hid hdd
  replace hb0 := Lib.hid hb0
  replace hx0 := Lib.hid hx0
  replace hd0 := Lib.hid hd0
  replace hll2 := Lib.hid hll2
  clear hfs
  go_enter Tryz.func49, Tryz.ntmps49
  go_upto_region 1 with fail
  rw [← hw0]
  replace hw0 := Lib.hid hw0
  go_upto_region 2 with fail
  refine wp_region_lat (by kernel_rfl) (by kernel_rfl) ?_
  repeat (go_big_quiet_step ((go_at_call 59; exact lat_of (CD _).out)))
  refine wpQuiet_nil ?_
  intro _ hw'
  obtain ⟨xl, hw''⟩ := hw'
  subst hw''
  go_wp2_with fail
  go_ret
  exact ⟨by rw [hres.out]; rfl, hb0.out.trans (xl.below.mono hb0.out.size)⟩
set_option maxRecDepth 100000 in
set_option maxHeartbeats 4000000 in
theorem rsize_list (B : Nat) (l : List F) (ih : ∀ (k : Nat) (h : k < l.length), Psize B l[k]) : Psize B (.mk true [] l) := by
  intro c0 c1 c2 w hf hB hd hlen
  unfold FV at hf
  obtain ⟨A, c, hcs, hc, hll, hfs⟩ := hf
  simp only [List.cons.injEq, and_true] at hcs
  obtain ⟨rfl, rfl, rfl⟩ := hcs
  have hd0 : (F.mk true [] l).depth = depths l + 1 := by rw [F.depth]
  have hbl : (F.mk true [] l).bytes.length = (bytess l).length + 2 := by rw [lst_bytes]; simp
  rw [hd0] at hd
  rw [hbl] at hlen
  obtain ⟨w0, hw0⟩ : ∃ w0, w0 = w.alloc (.cells #[.bool true, .string ⟨#[]⟩, .slice A l.length c] 52) := ⟨_, rfl⟩
  have hb0 : Below w.heap.size w w0 := by rw [hw0]; exact (Below.refl _ _).alloc (Nat.le_refl _) _
  have hx0 : w0.heap[w.heap.size]? = some (.cells #[.bool true, .string ⟨#[]⟩, .slice A l.length c] 52 (0, 0)) := by rw [hw0]; exact heap_alloc_at _ _
  obtain ⟨k0, k1, k2, _, _⟩ := blk3 hx0
  obtain ⟨n, hn⟩ : ∃ n, n = l.length := ⟨_, rfl⟩
  rw [← hn] at hll hc hw0 hx0 k2 ⊢
  replace hn := Lib.hid hn
  replace hb0 := Lib.hid hb0
  replace hx0 := Lib.hid hx0
  have hfsH := Lib.hid (FVs.below (hb0.out.mono hB) l A 0 hfs)
  have ihH := Lib.hid ih
  replace hd0 := Lib.hid hd0
  have hdH := Lib.hid hd
  have hlenH := Lib.hid hlen
  have hblH := Lib.hid hbl
  clear hfs ih hd hlen hbl
  go_enter Tryz.func49, Tryz.ntmps49
  go_upto_region 1 with fail
  rw [← hw0]
  replace hw0 := Lib.hid hw0
  go_wp2_with fail
  go_loopg [3, 4] n (fun g' v i W => ∃ k : Nat, g' = n - k ∧ k ≤ n ∧ i = .int .i64 k ∧ v = .int .i64 ((2 + (bytess (l.take k)).length : Nat) : Int) ∧ Below w0.heap.size w0 W)
  case atStart => exact ⟨0, rfl, by omega, rfl, rfl, Below.refl _ _⟩
  case round =>
    obtain ⟨k, hg', hk, rfl, rfl, hb⟩ := hrel
    subst hg'
    have hx := (hb.block _ (heap_lt hx0.out)).trans hx0.out
    obtain ⟨q0, q1, q2, _, _⟩ := blk3 hx
    have hbH := Lib.hid hb
    clear hx
    by_cases hkn : k < n
    · have hki : (k : Int) < (n : Int) := by omega
      have hkl : k < l.length := by rw [← hn.out]; exact hkn
      have hfk := FVs.get (FVs.below (hb.mono (Nat.le_trans hB hb0.out.size)) l A 0 hfsH.out) k hkl
      rw [Nat.zero_add] at hfk
      obtain ⟨b, o, c0, c1, c2, rfl, hbB, h0, h1, h2, hf⟩ := hfk
      have hdl := depths_get (l := l) k hkl
      have hbl := getelem_le l k hkl
      have CP := ihH.out k hkl c0 c1 c2 wr hf (Nat.le_trans hB (Nat.le_trans hb0.out.size hb.size)) (by have := hdH.out; omega) (by have := hlenH.out; omega)
      have hstep := Lib.hid (congrArg List.length (bytess_take l k hkl))
      rw [List.length_append] at hstep
      have hle := bytess_le l (k + 1)
      rw [hstep.out] at hle
      have hl6 := hlenH.out
      generalize hdk : (l[k]).bytes.length = dk at *
      generalize hda : (bytess (l.take k)).length = da at *
      replace hdk := Lib.hid hdk
      have CPH := Lib.hid CP
      generalize l[k] = fk at *
      obtain ⟨fb, ft, fl⟩ := fk
      unfold FV at hf
      obtain ⟨A2, cc, hcs, _⟩ := hf
      simp only [List.cons.injEq, and_true] at hcs
      obtain ⟨rfl, rfl, rfl⟩ := hcs
      generalize fl.length = fn at *
      clear CP hb
      go_wp2_with fail
      refine (CPH.out).mono ?_
      rintro ev w3 ⟨rfl, hb3⟩
      replace hb3 := Lib.hid (hbH.out.trans (hb3.mono hbH.out.size))
      go_wp2_with fail
      go_roundg (n - (k + 1))
      case measure => omega
      case rel => exact ⟨k + 1, rfl, by omega, by go_num, by rw [hstep.out]; go_num, hb3.out⟩
    · have hkn' : k = n := by omega
      subst hkn'
      have hki : ¬ (k : Int) < (k : Int) := by omega
      have ht : l.take k = l := List.take_of_length_le (by rw [← hn.out]; exact Nat.le_refl _)
      try rw [ht]
      clear ht
      have hl6 := hlenH.out
      have hfin := Lib.hid (show (((F.mk true [] l).bytes.length : Nat) : Int) = 2 + ((bytess l).length : Int) by rw [hblH.out]; omega)
      generalize (bytess l).length = dl at *
      go_wp2_with fail
      go_ret
      exact ⟨by rw [hfin.out]; rfl, hb0.out.trans (hbH.out.mono hb0.out.size)⟩
theorem rsize_any (B : Nat) : ∀ (n : Nat) (f : F), SizeOf.sizeOf f < n → f.right = true → Psize B f := by
  intro n
  induction n with
  | zero => intro f h; exact absurd h (by omega)
  | succ n ih =>
    rintro ⟨b, x, l⟩ hsz hr
    cases b with
    | true =>
      unfold F.right at hr
      simp only [Bool.and_eq_true] at hr
      have hx : x = [] := by simpa using hr.1
      subst hx
      refine rsize_list B l (fun k hk => ih _ ?_ (rights_get hr.2 k hk))
      have := get_size k hk
      have h2 : SizeOf.sizeOf (F.mk true [] l) = 1 + SizeOf.sizeOf true + SizeOf.sizeOf ([] : List UInt8) + SizeOf.sizeOf l := by rw [F.mk.sizeOf_spec]
      omega
    | false =>
      unfold F.right at hr
      have hl0 : l = [] := by simpa using hr
      subst hl0
      exact rsize_text B x
def Pbytes (B : Nat) (f : F) : Prop := ∀ (c0 c1 c2 : Value) (w : World), FV B w f [c0, c1, c2] → B ≤ w.heap.size → f.depth ≤ 8 → f.bytes.length ≤ 65536 →
  Calls Tryz.prog 50 #[.agg #[c0, c1, c2]] w fun ev w' => ev = .returned (.string ⟨f.bytes.toArray⟩) ∧ Below w.heap.size w w'
set_option maxRecDepth 100000 in
set_option maxHeartbeats 4000000 in
theorem rbytes_text (B : Nat) (t : List UInt8) : Pbytes B (.mk false t []) := by
  intro c0 c1 c2 w hf hB hd hlen
  unfold FV at hf
  obtain ⟨A, c, hcs, hc, hll, hfs⟩ := hf
  simp only [List.cons.injEq, and_true] at hcs
  obtain ⟨rfl, rfl, rfl⟩ := hcs
  rw [show ([] : List F).length = 0 from rfl]
  have hd0 : (F.mk false t []).depth = 0 := by rw [F.depth]
  rw [txt_bytes] at hlen
  have hll2 : (Lib.decDigits t.length ++ 58 :: t).length = (Lib.decDigits t.length).length + 1 + t.length := by simp; omega
  rw [hll2] at hlen
  obtain ⟨w0, hw0⟩ : ∃ w0, w0 = w.alloc (.cells #[.bool false, .string ⟨t.toArray⟩, .slice A 0 c] 52) := ⟨_, rfl⟩
  have hb0 : Below w.heap.size w w0 := by rw [hw0]; exact (Below.refl _ _).alloc (Nat.le_refl _) _
  have hx0 : w0.heap[w.heap.size]? = some (.cells #[.bool false, .string ⟨t.toArray⟩, .slice A 0 c] 52 (0, 0)) := by rw [hw0]; exact heap_alloc_at _ _
  obtain ⟨k0, k1, k2, _, _⟩ := blk3 hx0
  have l1 := Lat.cell k1
  have hts : (ByteArray.mk t.toArray).size = t.length := arr_size t
  have CD := fun (y : Lat w0) => Lib.hid (digits_c (t.length : Int) (by omega) (by omega) y.val)
  rw [Lib.itoa_nonneg] at CD
  have hds := arr_size (Lib.decDigits t.length)
  have hres := Lib.hid (show (ByteArray.mk (F.mk false t []).bytes.toArray) = ByteArray.mk (Lib.decDigits t.length).toArray ++ ByteArray.mk #[58] ++ ByteArray.mk t.toArray by
    rw [txt_bytes, show ByteArray.mk #[58] = ByteArray.mk [58].toArray from rfl, arr_cat, arr_cat]; simp)
  have hq1 : (9223372036854775807 < (Lib.decDigits t.length).length + 1) = False := eq_false (by omega)
  have hq2 : (9223372036854775807 < (Lib.decDigits t.length).length + 1 + t.length) = False := eq_false (by omega)
  generalize Lib.decDigits t.length = dd at *
  generalize ht : ByteArray.mk t.toArray = tt at *
  generalize hdd : ByteArray.mk dd.toArray = du at *
  have htl : (tt.size : Int) = (t.length : Int) := by omega
  have hdl : (du.size : Int) = (dd.length : Int) := by omega
  generalize t.length = tn at *
  generalize dd.length = dn at *
  replace ht := Lib.hid ht
  replace hdd := Lib.hid hdd
  replace hb0 := Lib.hid hb0
  replace hx0 := Lib.hid hx0
  replace hd0 := Lib.hid hd0
  replace hll2 := Lib.hid hll2
  clear hfs
  go_enter Tryz.func50, Tryz.ntmps50
  go_upto_region 1 with fail
  rw [← hw0]
  replace hw0 := Lib.hid hw0
  go_upto_region 2 with fail
  refine wp_region_lat (by kernel_rfl) (by kernel_rfl) ?_
  repeat (go_big_quiet_step ((go_at_call 59; exact lat_of (CD _).out)))
  refine wpQuiet_nil ?_
  intro _ hw'
  obtain ⟨xl, hw''⟩ := hw'
  subst hw''
  go_wp2_with fail
  go_ret
  exact ⟨by rw [hres.out]; rfl, hb0.out.trans (xl.below.mono hb0.out.size)⟩
set_option maxRecDepth 100000 in
set_option maxHeartbeats 4000000 in
theorem rbytes_list (B : Nat) (l : List F) (ih : ∀ (k : Nat) (h : k < l.length), Pbytes B l[k]) : Pbytes B (.mk true [] l) := by
  intro c0 c1 c2 w hf hB hd hlen
  unfold FV at hf
  obtain ⟨A, c, hcs, hc, hll, hfs⟩ := hf
  simp only [List.cons.injEq, and_true] at hcs
  obtain ⟨rfl, rfl, rfl⟩ := hcs
  have hd0 : (F.mk true [] l).depth = depths l + 1 := by rw [F.depth]
  have hbl : (F.mk true [] l).bytes.length = (bytess l).length + 2 := by rw [lst_bytes]; simp
  rw [hd0] at hd
  rw [hbl] at hlen
  obtain ⟨w0, hw0⟩ : ∃ w0, w0 = w.alloc (.cells #[.bool true, .string ⟨#[]⟩, .slice A l.length c] 52) := ⟨_, rfl⟩
  have hb0 : Below w.heap.size w w0 := by rw [hw0]; exact (Below.refl _ _).alloc (Nat.le_refl _) _
  have hx0 : w0.heap[w.heap.size]? = some (.cells #[.bool true, .string ⟨#[]⟩, .slice A l.length c] 52 (0, 0)) := by rw [hw0]; exact heap_alloc_at _ _
  obtain ⟨k0, k1, k2, _, _⟩ := blk3 hx0
  obtain ⟨n, hn⟩ : ∃ n, n = l.length := ⟨_, rfl⟩
  rw [← hn] at hll hc hw0 hx0 k2 ⊢
  replace hn := Lib.hid hn
  replace hb0 := Lib.hid hb0
  replace hx0 := Lib.hid hx0
  have hfsH := Lib.hid (FVs.below (hb0.out.mono hB) l A 0 hfs)
  have ihH := Lib.hid ih
  replace hd0 := Lib.hid hd0
  have hdH := Lib.hid hd
  have hlenH := Lib.hid hlen
  have hblH := Lib.hid hbl
  clear hfs ih hd hlen hbl
  go_enter Tryz.func50, Tryz.ntmps50
  go_upto_region 1 with fail
  rw [← hw0]
  replace hw0 := Lib.hid hw0
  go_wp2_with fail
  go_loopg [3, 4] n (fun g' v i W => ∃ k : Nat, g' = n - k ∧ k ≤ n ∧ i = .int .i64 k ∧ v = .string ⟨(40 :: bytess (l.take k)).toArray⟩ ∧ Below w0.heap.size w0 W)
  case atStart => exact ⟨0, rfl, by omega, rfl, rfl, Below.refl _ _⟩
  case round =>
    obtain ⟨k, hg', hk, rfl, rfl, hb⟩ := hrel
    subst hg'
    have hx := (hb.block _ (heap_lt hx0.out)).trans hx0.out
    obtain ⟨q0, q1, q2, _, _⟩ := blk3 hx
    have hbH := Lib.hid hb
    clear hx
    by_cases hkn : k < n
    · have hki : (k : Int) < (n : Int) := by omega
      have hkl : k < l.length := by rw [← hn.out]; exact hkn
      have hfk := FVs.get (FVs.below (hb.mono (Nat.le_trans hB hb0.out.size)) l A 0 hfsH.out) k hkl
      rw [Nat.zero_add] at hfk
      obtain ⟨b, o, c0, c1, c2, rfl, hbB, h0, h1, h2, hf⟩ := hfk
      have hdl := depths_get (l := l) k hkl
      have hbl := getelem_le l k hkl
      have CP := ihH.out k hkl c0 c1 c2 wr hf (Nat.le_trans hB (Nat.le_trans hb0.out.size hb.size)) (by have := hdH.out; omega) (by have := hlenH.out; omega)
      have hstep := Lib.hid (bytess_take l k hkl)
      have hle := bytess_le l (k + 1)
      rw [hstep.out, List.length_append] at hle
      have hl6 := hlenH.out
      have hs1 := arr_size (l[k]).bytes
      have hs2 := arr_size (40 :: bytess (l.take k))
      rw [List.length_cons] at hs2
      have hcat := Lib.hid (arr_cat (40 :: bytess (l.take k)) (l[k]).bytes)
      have hq1 : (9223372036854775807 < (ByteArray.mk (40 :: bytess (l.take k)).toArray).size + (ByteArray.mk (l[k]).bytes.toArray).size) = False := eq_false (by omega)
      generalize hx1 : ByteArray.mk (l[k]).bytes.toArray = bx at *
      generalize hx2 : ByteArray.mk (40 :: bytess (l.take k)).toArray = ba at *
      replace hx1 := Lib.hid hx1
      replace hx2 := Lib.hid hx2
      have CPH := Lib.hid CP
      generalize l[k] = fk at *
      obtain ⟨fb, ft, fl⟩ := fk
      unfold FV at hf
      obtain ⟨A2, cc, hcs, _⟩ := hf
      simp only [List.cons.injEq, and_true] at hcs
      obtain ⟨rfl, rfl, rfl⟩ := hcs
      generalize fl.length = fn at *
      clear CP hb
      go_wp2_with fail
      refine (CPH.out).mono ?_
      rintro ev w3 ⟨rfl, hb3⟩
      replace hb3 := Lib.hid (hbH.out.trans (hb3.mono hbH.out.size))
      go_wp2_with fail
      go_roundg (n - (k + 1))
      case measure => omega
      case rel => exact ⟨k + 1, rfl, by omega, by go_num, by rw [hstep.out, ← List.cons_append, ← hcat.out], hb3.out⟩
    · have hkn' : k = n := by omega
      subst hkn'
      have hki : ¬ (k : Int) < (k : Int) := by omega
      have ht : l.take k = l := List.take_of_length_le (by rw [← hn.out]; exact Nat.le_refl _)
      try rw [ht]
      clear ht
      have hl6 := hlenH.out
      have hs2 := arr_size (40 :: bytess l)
      rw [List.length_cons] at hs2
      have hcat := Lib.hid (arr_cat (40 :: bytess l) [41])
      have hq1 : (9223372036854775807 < (ByteArray.mk (40 :: bytess l).toArray).size + 1) = False := eq_false (by omega)
      generalize hx2 : ByteArray.mk (40 :: bytess l).toArray = ba at *
      replace hx2 := Lib.hid hx2
      go_wp2_with fail
      go_ret
      exact ⟨by rw [lst_bytes, ← List.cons_append, ← hcat.out]; rfl, hb0.out.trans (hbH.out.mono hb0.out.size)⟩
theorem rbytes_any (B : Nat) : ∀ (n : Nat) (f : F), SizeOf.sizeOf f < n → f.right = true → Pbytes B f := by
  intro n
  induction n with
  | zero => intro f h; exact absurd h (by omega)
  | succ n ih =>
    rintro ⟨b, x, l⟩ hsz hr
    cases b with
    | true =>
      unfold F.right at hr
      simp only [Bool.and_eq_true] at hr
      have hx : x = [] := by simpa using hr.1
      subst hx
      refine rbytes_list B l (fun k hk => ih _ ?_ (rights_get hr.2 k hk))
      have := get_size k hk
      have h2 : SizeOf.sizeOf (F.mk true [] l) = 1 + SizeOf.sizeOf true + SizeOf.sizeOf ([] : List UInt8) + SizeOf.sizeOf l := by rw [F.mk.sizeOf_spec]
      omega
    | false =>
      unfold F.right at hr
      have hl0 : l = [] := by simpa using hr
      subst hl0
      exact rbytes_text B x
end Go.Proofs.YtbefkoljcacpcaaGreatDoor.Tm
set_option linter.unusedVariables false
set_option linter.unusedSimpArgs false
namespace Go.Proofs.YtbefkoljcacpcaaGreatDoor.Tm
open Go Go.RowKit Go.Proofs.YtbefkoljcacpcaaGreatDoor.B Go.Proofs.YtbefkoljcacpcaaGreatDoor.Bld Go.Proofs.YtbefkoljcacpcaaGreatDoor.Sha
theorem results_cell_tmp2 {P : Program} {fn : Func} {p q q2 : Tmp} {ty : TypeId} (h : fn.results = #[.cell p ty, .tmp q, .tmp q2]) (tmps : Array Value) (w : World) (g : Nat) (t : TypeId) (cs : Array Value) (fr : Nat × Nat) (d : TypeDesc)
    (hp : tmps.getD p undef = .pointer (some ⟨g, 0, none⟩)) (hg : w.heap[g]? = some (.cells cs t fr))
    (hu : P.underlying ty = some d) (hd : (match d with | .struct _ | .array _ _ => true | _ => false) = true) (hi : (P.info? ty).map (·.size) = some cs.size) (v v2 : Value) (hq : tmps.getD q undef = v) (hq2 : tmps.getD q2 undef = v2) :
    (results fn tmps).run P w = .ok (.tuple #[.agg cs, v, v2]) w := by
  have hp' : tmps[p]?.getD undef = .pointer (some ⟨g, 0, none⟩) := by simpa using hp
  have hq' : tmps[q]?.getD undef = v := by simpa using hq
  have hq2' : tmps[q2]?.getD undef = v2 := by simpa using hq2
  simp [results, h, hp', hq', hq2', asAddr, run_loadVar_row w g t ty cs fr d hg hu hd hi]
def RItemPost (deep : Nat) (s : ByteArray) (w : World) (ev : Ending) (w' : World) : Prop :=
  ∃ f c0 c1 c2 ok r, ev = .returned (.tuple #[.agg #[c0, c1, c2], .string r, .bool ok]) ∧ FK (fun b => w.heap.size ≤ b ∧ b < w'.heap.size) w' f [c0, c1, c2] ∧ ItemSpec deep s.data.toList f ok r.data.toList ∧ Below w.heap.size w w'
theorem ritemPost_no {deep : Nat} {s : ByteArray} {w W : World} (hsp : ItemSpec deep s.data.toList (.mk false [] []) false []) (ht : Below w.heap.size w W) (x y z : Value) :
    RItemPost deep s w (.returned (.tuple #[.agg #[.bool false, .string ⟨#[]⟩, .slice none 0 0], .string ⟨#[]⟩, .bool false])) (((W.setCell ⟨w.heap.size, 0, none⟩ x).setCell ⟨w.heap.size, 1, none⟩ y).setCell ⟨w.heap.size, 2, none⟩ z) :=
  ⟨.mk false [] [], _, _, _, false, ⟨#[]⟩, rfl, FK.text _ _ ⟨#[]⟩, hsp, ((ht.setCell (Nat.le_refl _) _).setCell (Nat.le_refl _) _).setCell (Nat.le_refl _) _⟩
def RCont (l : List UInt8) (k : Nat) (cont : Bool) : Prop := (cont = true → ∃ a, l[k]? = some a ∧ isD a ∧ k < 6) ∧ (cont = false → k = 6 ∨ k = l.length ∨ ∃ c, l[k]? = some c ∧ ¬ isD c)
def RBad (l : List UInt8) (k n : Nat) (bad : Bool) : Prop :=
  (bad = true → k = 0 ∨ (1 < k ∧ l[0]? = some 48) ∨ l.length ≤ k ∨ l[k]? ≠ some 58 ∨ l.length - k - 1 < n) ∧ (bad = false → l[k]? = some 58 ∧ n ≤ l.length - k - 1)
set_option maxRecDepth 100000 in
set_option maxHeartbeats 8000000 in
theorem ritem_text_c (deep : Nat) (s : ByteArray) (w : World) (hs : s.size ≤ 65536) (h0 : s.data.toList[0]? ≠ some 40) :
    Calls Tryz.prog 58 #[.string s, .int .i64 deep] w (RItemPost deep s w) := by
  obtain ⟨w0, hw0⟩ : ∃ w0, w0 = w.alloc (.cells #[.bool false, .string ⟨#[]⟩, .slice none 0 0] 52) := ⟨_, rfl⟩
  have hr0 : w0.heap[w.heap.size]? = some (.cells #[.bool false, .string ⟨#[]⟩, .slice none 0 0] 52 (0, 0)) := by rw [hw0]; exact heap_alloc_at _ _
  have hb0 : Below w.heap.size w w0 := by rw [hw0]; exact (Below.refl _ _).alloc (Nat.le_refl _) _
  obtain ⟨k0, k1, k2, hsh, hfz⟩ := blk3 hr0
  have hsl := toList_size s
  have hr0H := Lib.hid hr0
  have hb0H := Lib.hid hb0
  clear hr0 hb0
  by_cases hz : s.size = 0
  · have hnil : s.data.toList = [] := List.eq_nil_of_length_eq_zero (by omega)
    have hre : s.toList = [] := by rw [ByteArray.toList_eq]; exact hnil
    have hsp := Lib.hid (show ItemSpec deep s.data.toList (.mk false [] []) false [] by rw [hnil]; exact item_empty deep _)
    clear hnil
    go_enter Tryz.func58, Tryz.ntmps58
    go_upto_region 1 with fail
    rw [← hw0]
    replace hw0 := Lib.hid hw0
    go_wp2_with fail
    (try simp only [Exit.inBlock, Exit.then])
    refine bodyPost_ret (results_cell_tmp2 rfl _ _ w.heap.size 52 #[.bool false, .string ⟨#[]⟩, .slice none 0 0] (0, 0) _ rfl (set3 hr0H.out) Tryz.underlying52 rfl (by kernel_rfl) _ _ rfl rfl) rfl ?_
    exact ritemPost_no hsp.out hb0H.out _ _ _
  · have hre1 : ¬ s.toList = [] := by rw [ByteArray.toList_eq]; intro e; rw [e] at hsl; simp at hsl; omega
    have hre2 : s.toList.isEmpty = false := by simpa using hre1
    have hrp : 0 < s.size := by omega
    have hrpi : (0 : Int) < (s.size : Int) := by omega
    obtain ⟨a, ha⟩ : ∃ a, a = s[0]'hrp := ⟨_, rfl⟩
    have hl0 : s.data.toList[0]? = some a := by rw [ha, Array.getElem?_toList, Array.getElem?_eq_getElem hrp]; rfl
    have ha40 : ¬ a = 40 := by rintro rfl; exact h0 hl0
    have q40 : (((s[0]'hrp).toNat : Int) == 40) = false := by
      rw [← ha, beq_eq_false_iff_ne]
      intro h
      exact ha40 (UInt8.toNat_inj.1 (by have : ((40 : UInt8).toNat : Int) = 40 := rfl; omega))
    have haH := Lib.hid ha
    have hl0H := Lib.hid hl0
    have h0H := Lib.hid h0
    clear ha hl0 h0 ha40
    obtain ⟨n, hn⟩ : ∃ n, n = s.size := ⟨_, rfl⟩
    have hsz : (s.size : Int) = (n : Int) := by omega
    have hsn : n ≤ 65536 := by omega
    have hslH := Lib.hid hsl
    have hnH := Lib.hid hn
    clear hn hsl hs hz
    go_enter Tryz.func58, Tryz.ntmps58
    go_upto_region 1 with fail
    rw [← hw0]
    replace hw0 := Lib.hid hw0
    go_wp2_with fail
    go_loopg [11, 12] n (fun g' v i W => ∃ k m : Nat, g' = n - k ∧ v = .int .i64 m ∧ i = .int .i64 k ∧ RInv s.data.toList k m ∧ W = w0)
    case atStart => exact ⟨0, 0, rfl, rfl, rfl, rinv_zero _, rfl⟩
    case round =>
      obtain ⟨k, m, hg', rfl, rfl, hI, rfl⟩ := hrel
      subst hg'
      have hkl := hI.1
      have hk6 := hI.2.1
      have hm := rinv_le hI
      rw [hslH.out, ← hnH.out] at hkl
      have hIH := Lib.hid hI
      clear hI
      have hkb : (k : Int) ≤ 6 := by omega
      have hix := fun (h : k < s.size) (W : World) => str_idx (P := Tryz.prog) Tryz.underlying9 s k h W
      have hat := fun (h : k < s.size) => getD_some (l := s.data.toList) (k := k) (by rw [hslH.out]; exact h)
      generalize s.data.toList.getD k 0 = a at *
      obtain ⟨b, hb⟩ : ∃ b, b = a.toNat := ⟨_, rfl⟩
      have hb256 : b < 256 := by rw [hb]; exact a.toNat_lt
      rw [← hb] at hix
      replace hb := Lib.hid hb
      have hixH := Lib.hid hix
      have hatH := Lib.hid hat
      clear hix hat
      go_upto_region 18 with fail
      go_cut [75] (fun v wc => ∃ cont, v = .bool cont ∧ wc = wr ∧ RCont s.data.toList k cont)
      case first =>
        by_cases hkn : k < n
        · have hki : (k : Int) < (n : Int) := by omega
          have hix := hixH.out (by rw [← hnH.out]; exact hkn)
          have hat := Lib.hid (hatH.out (by rw [← hnH.out]; exact hkn))
          by_cases g1 : (48 : Int) ≤ (b : Int)
          · by_cases g2 : (b : Int) ≤ 57
            · have hd := Lib.hid (show isD a by unfold isD; rw [← hb.out]; omega)
              by_cases g3 : (k : Int) < 6
              · go_wp2_with fail
                go_meet
                case rel => exact ⟨_, rfl, rfl, fun _ => ⟨a, hat.out, hd.out, by omega⟩, fun h => (by cases h)⟩
              · go_wp2_with fail
                go_meet
                case rel => exact ⟨_, rfl, rfl, fun h => (by cases h), fun _ => .inl (by omega)⟩
            · have hd := Lib.hid (show ¬ isD a by unfold isD; rw [← hb.out]; omega)
              go_wp2_with fail
              go_meet
              case rel => exact ⟨_, rfl, rfl, fun h => (by cases h), fun _ => .inr (.inr ⟨a, hat.out, hd.out⟩)⟩
          · have hd := Lib.hid (show ¬ isD a by unfold isD; rw [← hb.out]; omega)
            go_wp2_with fail
            go_meet
            case rel => exact ⟨_, rfl, rfl, fun h => (by cases h), fun _ => .inr (.inr ⟨a, hat.out, hd.out⟩)⟩
        · have hki : ¬ (k : Int) < (n : Int) := by omega
          go_wp2_with fail
          go_meet
          case rel => exact ⟨_, rfl, rfl, fun h => (by cases h), fun _ => .inr (.inl (by rw [hslH.out, ← hnH.out]; omega))⟩
      case rest =>
        obtain ⟨cont, rfl, rfl, hcont⟩ := hcut
        cases cont with
        | true =>
          obtain ⟨a2, h1, h2, h3⟩ := hcont.1 rfl
          have hkn : k < n := by have := (List.getElem?_eq_some_iff.1 h1).1; rw [hslH.out, ← hnH.out] at this; exact this
          have hki : (k : Int) < (n : Int) := by omega
          have hix := hixH.out (by rw [← hnH.out]; exact hkn)
          have hat := hatH.out (by rw [← hnH.out]; exact hkn)
          rw [hat] at h1
          obtain rfl := Option.some.inj h1
          have hd2 := h2
          unfold isD at hd2
          rw [← hb.out] at hd2
          have g1 : (48 : Int) ≤ (b : Int) := by omega
          have g2 : (b : Int) ≤ 57 := by omega
          have gw : ((b : Int) - 48) % 256 = (b : Int) - 48 := by omega
          have hs1 := Lib.hid (rinv_step hIH.out h3 hat h2)
          rw [← hb.out] at hs1
          have gs := Lib.hid (show (((10 * m + (b - 48) : Nat)) : Int) = (m : Int) * 10 + ((b : Int) - 48) by omega)
          have hmi : (m : Int) < 1000000 := by omega
          clear hcont h1 h2 hat hd2
          go_wp2_with fail
          go_roundg (n - (k + 1))
          case measure => omega
          case rel => exact ⟨k + 1, _, rfl, by rw [gs.out], by go_num, hs1.out, rfl⟩
        | false =>
          have he := Lib.hid (hcont.2 rfl)
          clear hcont
          have hmi : (m : Int) < 1000000 := by omega
          go_upto_region 21 with fail
          go_cut [117] (fun v wc2 => ∃ bad, v = .bool bad ∧ wc2 = wc ∧ RBad s.data.toList k m bad)
          case first =>
            by_cases hk0 : k = 0
            · have g0 : ((k : Int) == 0) = true := by rw [beq_iff_eq]; omega
              go_wp2_with fail
              go_meet
              case rel => exact ⟨_, rfl, rfl, fun _ => .inl hk0, fun h => (by cases h)⟩
            · have g0 : ((k : Int) == 0) = false := by rw [beq_eq_false_iff_ne]; omega
              by_cases hb48 : 1 < k ∧ s.data.toList[0]? = some 48
              · have g1 : (1 : Int) < (k : Int) := by omega
                have g48 : (((s[0]'hrp).toNat : Int) == 48) = true := by
                  have := hl0H.out
                  rw [hb48.2] at this
                  rw [← haH.out, ← Option.some.inj this]; rfl
                replace hb48 := Lib.hid hb48
                go_wp2_with fail
                go_meet
                case rel => exact ⟨_, rfl, rfl, fun _ => .inr (.inl hb48.out), fun h => (by cases h)⟩
              · have g48 : ¬ (1 : Int) < (k : Int) ∨ ((1 : Int) < (k : Int) ∧ (((s[0]'hrp).toNat : Int) == 48) = false) := by
                  by_cases h : 1 < k
                  · right
                    refine ⟨by omega, ?_⟩
                    rw [beq_eq_false_iff_ne, ← haH.out]
                    intro h2
                    exact hb48 ⟨h, by rw [hl0H.out]; congr 1; exact UInt8.toNat_inj.1 (by have : ((48 : UInt8).toNat : Int) = 48 := rfl; omega)⟩
                  · left; omega
                clear hb48
                by_cases hkn : k < n
                · have hki : ¬ (n : Int) ≤ (k : Int) := by omega
                  have hki2 : (k : Int) < (n : Int) := by omega
                  have hix := hixH.out (by rw [← hnH.out]; exact hkn)
                  have hat := Lib.hid (hatH.out (by rw [← hnH.out]; exact hkn))
                  by_cases h58 : b = 58
                  · have g58 : ((b : Int) != 58) = false := by rw [bne_eq_false_iff_eq]; omega
                    have hat58 := Lib.hid (show s.data.toList[k]? = some 58 by rw [hat.out]; congr 1; exact UInt8.toNat_inj.1 (by rw [← hb.out, h58]; rfl))
                    replace h58 := Lib.hid h58
                    by_cases hmk : m ≤ n - k - 1
                    · have gm : ¬ (n : Int) - (k : Int) - 1 < (m : Int) := by omega
                      have hmkH := Lib.hid (show m ≤ s.data.toList.length - k - 1 by rw [hslH.out, ← hnH.out]; exact hmk)
                      clear hmk
                      rcases g48 with g48 | ⟨g1, g48⟩
                      · go_wp2_with fail
                        go_meet
                        case rel => exact ⟨_, rfl, rfl, fun h => (by cases h), fun _ => ⟨hat58.out, hmkH.out⟩⟩
                      · go_wp2_with fail
                        all_goals go_meet
                        all_goals exact ⟨_, rfl, rfl, fun h => (by cases h), fun _ => ⟨hat58.out, hmkH.out⟩⟩
                    · have gm : (n : Int) - (k : Int) - 1 < (m : Int) := by omega
                      have hmkH := Lib.hid (show s.data.toList.length - k - 1 < m by rw [hslH.out, ← hnH.out]; omega)
                      clear hmk
                      rcases g48 with g48 | ⟨g1, g48⟩
                      · go_wp2_with fail
                        go_meet
                        case rel => exact ⟨_, rfl, rfl, fun _ => .inr (.inr (.inr (.inr hmkH.out))), fun h => (by cases h)⟩
                      · go_wp2_with fail
                        all_goals go_meet
                        all_goals exact ⟨_, rfl, rfl, fun _ => .inr (.inr (.inr (.inr hmkH.out))), fun h => (by cases h)⟩
                  · have g58 : ((b : Int) != 58) = true := by rw [bne_iff_ne]; omega
                    have hne58 := Lib.hid (show s.data.toList[k]? ≠ some 58 by
                      rw [hat.out]
                      intro e
                      exact h58 (by rw [hb.out, Option.some.inj e]; rfl))
                    replace h58 := Lib.hid h58
                    rcases g48 with g48 | ⟨g1, g48⟩
                    · go_wp2_with fail
                      go_meet
                      case rel => exact ⟨_, rfl, rfl, fun _ => .inr (.inr (.inr (.inl hne58.out))), fun h => (by cases h)⟩
                    · go_wp2_with fail
                      all_goals go_meet
                      all_goals exact ⟨_, rfl, rfl, fun _ => .inr (.inr (.inr (.inl hne58.out))), fun h => (by cases h)⟩
                · have hki : (n : Int) ≤ (k : Int) := by omega
                  have hklH := Lib.hid (show s.data.toList.length ≤ k by rw [hslH.out, ← hnH.out]; omega)
                  rcases g48 with g48 | ⟨g1, g48⟩
                  · go_wp2_with fail
                    go_meet
                    case rel => exact ⟨_, rfl, rfl, fun _ => .inr (.inr (.inl hklH.out)), fun h => (by cases h)⟩
                  · go_wp2_with fail
                    all_goals go_meet
                    all_goals exact ⟨_, rfl, rfl, fun _ => .inr (.inr (.inl hklH.out)), fun h => (by cases h)⟩
          case rest =>
            obtain ⟨bad, rfl, rfl, hbad⟩ := hcut
            cases bad with
            | true =>
              have hsp := Lib.hid (rtext_no (deep := deep) hIH.out he.out (hbad.1 rfl) h0H.out (by rw [hslH.out, ← hnH.out]; exact hsn) (.mk false [] []))
              clear hbad
              go_wp2_with fail
              (try simp only [Exit.inBlock, Exit.then])
              refine bodyPost_ret (results_cell_tmp2 rfl _ _ w.heap.size 52 #[.bool false, .string ⟨#[]⟩, .slice none 0 0] (0, 0) _ rfl (set3 hr0H.out) Tryz.underlying52 rfl (by kernel_rfl) _ _ rfl rfl) rfl ?_
              exact ritemPost_no hsp.out hb0H.out _ _ _
            | false =>
              obtain ⟨h58, hmk⟩ := hbad.2 rfl
              have hkn : k < n := by have := (List.getElem?_eq_some_iff.1 h58).1; rw [hslH.out, ← hnH.out] at this; exact this
              have hsp := Lib.hid (rtext_yes (deep := deep) hIH.out h58 hmk h0H.out (by rw [hslH.out, ← hnH.out]; exact hsn))
              rw [hslH.out, ← hnH.out] at hmk
              have i1 : (k : Int) + 1 + (m : Int) ≤ (n : Int) := by omega
              have i2 : (0 : Int) ≤ (k : Int) + 1 := by omega
              have i3 : (k : Int) + 1 ≤ (k : Int) + 1 + (m : Int) := by omega
              have v1 : IntKind.i64.wrap ((k : Int) + 1) = (k : Int) + 1 := IntWalk.i64_in _ (by omega)
              have v2 : IntKind.i64.wrap ((k : Int) + 1 + (m : Int)) = (k : Int) + 1 + (m : Int) := IntWalk.i64_in _ (by omega)
              have v3 : ((k : Int) + 1).toNat = k + 1 := by omega
              have v4 : ((k : Int) + 1 + (m : Int)).toNat = k + 1 + m := by omega
              have i4 : (0 : Int) ≤ (k : Int) + 1 + (m : Int) := by omega
              have i5 : (k : Int) + 1 + (m : Int) ≤ (s.size : Int) := by omega
              clear hbad h58 he
              go_upto_region 23 with fail
              go_region_held3 (fun W => True) (exact trivial) ((go_at_call 29; with_reducible refine (rtext_c _ _).mono ?_; rintro ev w3 ⟨rfl, hb3⟩; obtain ⟨z0, z1, z2, zsh, zfz⟩ := blk3 ((hb3.block _ (heap_lt hr0H.out)).trans hr0H.out); unfold vtext; replace hb3 := Lib.hid hb3))
              clear v1 v2 v3 v4
              go_wp2_with fail
              (try simp only [Exit.inBlock, Exit.then])
              have hr3 : w3.heap[w.heap.size]? = some (.cells #[.bool false, .string ⟨#[]⟩, .slice none 0 0] 52 (0, 0)) := (hb3.out.block _ (heap_lt hr0H.out)).trans hr0H.out
              refine bodyPost_ret (results_cell_tmp2 rfl _ _ w.heap.size 52 #[.bool false, .string (s.extract (k + 1) (k + 1 + m)), .slice none 0 0] (0, 0) _ rfl (set3 hr3) Tryz.underlying52 rfl (by kernel_rfl) _ _ rfl rfl) rfl ?_
              have e1 : (s.extract (k + 1) (k + 1 + m)).data.toList = (s.data.toList.drop (k + 1)).take m := by rw [Lib.extract_data]; congr 1; omega
              have hb4 : Below w.heap.size w w3 := hb0H.out.trans (((Below.refl w.heap.size wc).drew).trans (Below.mono (w := wc.drew) hb3.out hb0H.out.size))
              exact ⟨txt ((s.data.toList.drop (k + 1)).take m), _, _, _, true, s.extract (k + 1 + m) s.size, rfl, by rw [← e1]; exact FK.text _ _ _, by rw [extract_toList]; exact hsp.out, ((hb4.setCell (Nat.le_refl _) _).setCell (Nat.le_refl _) _).setCell (Nat.le_refl _) _⟩
end Go.Proofs.YtbefkoljcacpcaaGreatDoor.Tm
set_option linter.unusedVariables false
set_option linter.unusedSimpArgs false
namespace Go.Proofs.YtbefkoljcacpcaaGreatDoor.Tm
open Go Go.RowKit Go.Proofs.YtbefkoljcacpcaaGreatDoor.B Go.Proofs.YtbefkoljcacpcaaGreatDoor.Bld Go.Proofs.YtbefkoljcacpcaaGreatDoor.Sha
def RItemAt (deep : Nat) : Prop := ∀ (s : ByteArray) (w : World), s.size ≤ 65536 → Calls Tryz.prog 58 #[.string s, .int .i64 deep] w (RItemPost deep s w)
def RItRel (deep : Nat) (s1 : List UInt8) (w : World) (W : World) (L : List F) (v : Value) (r : ByteArray) : Prop :=
  W.heap[w.heap.size]? = some (.cells #[.bool false, .string ⟨#[]⟩, .slice none 0 0] 52 (0, 0)) ∧
  W.heap[w.heap.size + 1]? = some (.cells #[.bool true, .string ⟨#[]⟩, v] 52 (0, 0)) ∧ Bag (w.heap.size + 2) W v L ∧ LoopSpec deep s1 L r.data.toList ∧ Below w.heap.size w W
set_option maxRecDepth 100000 in
set_option maxHeartbeats 8000000 in
theorem ritem_list_c (deep : Nat) (hd9 : deep ≤ 8) (ih : deep < 8 → RItemAt (deep + 1)) (s : ByteArray) (w : World) (hs : s.size ≤ 65536) (h0 : s.data.toList[0]? = some 40) :
    Calls Tryz.prog 58 #[.string s, .int .i64 deep] w (RItemPost deep s w) := by
  have hs1 : 1 ≤ s.size := by
    rw [← toList_size]
    have := (List.getElem?_eq_some_iff.1 h0).1
    omega
  obtain ⟨s1, hs1e⟩ : ∃ s1, s.data.toList = 40 :: s1 := by
    generalize s.data.toList = l at *
    cases l with
    | nil => cases h0
    | cons a l =>
      simp only [List.getElem?_cons_zero, Option.some.injEq] at h0
      exact ⟨l, by rw [h0]⟩
  have hs1i : (1 : Int) ≤ (s.size : Int) := by omega
  have hs0i : (0 : Int) < (s.size : Int) := by omega
  have hre1 : ¬ s.toList = [] := by rw [ByteArray.toList_eq, hs1e]; simp
  have hre2 : s.toList.isEmpty = false := by simpa using hre1
  have hrp : 0 < s.size := by omega
  have q40 : (((s[0]'hrp).toNat : Int) == 40) = true := by
    have : s.data.toList[0]? = some (s[0]'hrp) := by rw [Array.getElem?_toList, Array.getElem?_eq_getElem hrp]; rfl
    rw [h0] at this
    rw [← Option.some.inj this]; rfl
  obtain ⟨w0, hw0⟩ : ∃ w0, w0 = w.alloc (.cells #[.bool false, .string ⟨#[]⟩, .slice none 0 0] 52) := ⟨_, rfl⟩
  have hsz0 : w0.heap.size = w.heap.size + 1 := by rw [hw0]; simp
  have hr0 : w0.heap[w.heap.size]? = some (.cells #[.bool false, .string ⟨#[]⟩, .slice none 0 0] 52 (0, 0)) := by rw [hw0]; exact heap_alloc_at _ _
  have hb0 : Below w.heap.size w w0 := by rw [hw0]; exact (Below.refl _ _).alloc (Nat.le_refl _) _
  obtain ⟨w1, hw1⟩ : ∃ w1, w1 = w0.alloc (.cells #[.bool true, .string ⟨#[]⟩, .slice none 0 0] 52) := ⟨_, rfl⟩
  have hr1 : w1.heap[w.heap.size]? = some (.cells #[.bool false, .string ⟨#[]⟩, .slice none 0 0] 52 (0, 0)) := by rw [hw1, heap_alloc_lt _ _ _ (heap_lt hr0)]; exact hr0
  have hf1 : w1.heap[w.heap.size + 1]? = some (.cells #[.bool true, .string ⟨#[]⟩, .slice none 0 0] 52 (0, 0)) := by rw [hw1, ← hsz0]; exact heap_alloc_at _ _
  have hb1 : Below w.heap.size w w1 := by rw [hw1]; exact hb0.alloc (by omega) _
  have hrel0 : RItRel deep s1 w w1 [] (.slice none 0 0) (s.extract 1 s.size) := by
    refine ⟨hr1, hf1, Bag.nil _ _, ?_, hb1⟩
    rw [extract_toList, hs1e]
    exact loop_zero deep s1
  obtain ⟨k0, k1, k2, hsh, hfz⟩ := blk3 hr0
  have hrel0H := Lib.hid hrel0
  have hsx : (s.extract 1 s.size).size = s.size - 1 := by rw [← toList_size, extract_toList, List.length_drop, toList_size]
  have hsxH := Lib.hid hsx
  replace hs1e := Lib.hid hs1e
  replace hs := Lib.hid hs
  have ihH := Lib.hid ih
  have hsz0H := Lib.hid hsz0
  have hr0H := Lib.hid hr0
  have hb0H := Lib.hid hb0
  clear hrel0 hsx hr0 hr1 hf1 hb0 hb1 h0 ih hsz0
  go_enter Tryz.func58, Tryz.ntmps58
  go_upto_region 1 with fail
  rw [← hw0]
  replace hw0 := Lib.hid hw0
  by_cases hd8 : 8 ≤ deep
  · have hd8i : (8 : Int) ≤ (deep : Int) := by omega
    have hsp := Lib.hid (item_nil (item_stop (loop_zero deep s1) (.inl hd8) (.mk false [] [])) (f0 := .mk false [] []))
    rw [← hs1e.out] at hsp
    go_wp2_with fail
    (try simp only [Exit.inBlock, Exit.then])
    refine bodyPost_ret (results_cell_tmp2 rfl _ _ w.heap.size 52 #[.bool false, .string ⟨#[]⟩, .slice none 0 0] (0, 0) _ rfl (set3 hr0H.out) Tryz.underlying52 rfl (by kernel_rfl) _ _ rfl rfl) rfl ?_
    exact ritemPost_no hsp.out hb0H.out _ _ _
  have hd8i : ¬ (8 : Int) ≤ (deep : Int) := by omega
  go_upto_region 7 with fail
  rw [hsz0H.out, ← hw1]
  replace hw1 := Lib.hid hw1
  clear k0 k1 k2 hsh hfz hre1 hre2 q40
  go_wp2_with fail
  go_loopg [0] (s.size - 1) (fun g' x W => ∃ L v r, g' = r.size ∧ x = .string r ∧ RItRel deep s1 w W L v r)
  case atStart => exact ⟨[], .slice none 0 0, s.extract 1 s.size, by rw [hsxH.out], rfl, hrel0H.out⟩
  case round =>
    obtain ⟨L, v, r, hgk, rfl, hR⟩ := hrel
    have hblk := hR.1
    have hfb := hR.2.1
    have hlp := hR.2.2.2.1
    have hT := hR.2.2.2.2
    obtain ⟨k0, k1, k2, hsh, hfz⟩ := blk3 hblk
    obtain ⟨f0, f1, f2, _, hfzf⟩ := blk3 hfb
    have hRH := Lib.hid hR
    replace hgk := Lib.hid hgk
    replace hblk := Lib.hid hblk
    replace hfb := Lib.hid hfb
    replace hlp := Lib.hid hlp
    replace hT := Lib.hid hT
    clear hR
    by_cases hr0 : r.size = 0
    · have hre : r.toList = [] := by rw [ByteArray.toList_eq]; exact List.eq_nil_of_length_eq_zero (by rw [toList_size]; exact hr0)
      have hsp := Lib.hid (item_nil (item_stop hlp.out (.inr (List.eq_nil_of_length_eq_zero (by rw [toList_size]; exact hr0))) (.mk false [] [])) (f0 := .mk false [] []))
      rw [← hs1e.out] at hsp
      go_wp2_with fail
      (try simp only [Exit.inBlock, Exit.then])
      refine bodyPost_ret (results_cell_tmp2 rfl _ _ w.heap.size 52 #[.bool false, .string ⟨#[]⟩, .slice none 0 0] (0, 0) _ rfl (set3 hblk.out) Tryz.underlying52 rfl (by kernel_rfl) _ _ rfl rfl) rfl ?_
      exact ritemPost_no hsp.out hT.out _ _ _
    · have hre1 : ¬ r.toList = [] := by
        rw [ByteArray.toList_eq]
        intro e
        exact hr0 (by rw [← toList_size, e]; rfl)
      have hre2 : r.toList.isEmpty = false := by simpa using hre1
      have hrp : 0 < r.size := by omega
      have hrpi : (0 : Int) < (r.size : Int) := by omega
      obtain ⟨a, ha⟩ : ∃ a, a = r[0]'hrp := ⟨_, rfl⟩
      have hl0 : r.data.toList[0]? = some a := by rw [ha, Array.getElem?_toList, Array.getElem?_eq_getElem hrp]; rfl
      by_cases h41 : a = 41
      · have q41 : (((r[0]'hrp).toNat : Int) != 41) = false := by rw [← ha, h41]; rfl
        obtain ⟨A, c, rfl, hLc, hcm, hks⟩ := hRH.out.2.2.1.form
        have hr41 : r.data.toList = 41 :: r.data.toList.drop 1 := by
          rw [h41] at hl0
          generalize r.data.toList = q at *
          cases q with
          | nil => cases hl0
          | cons x q =>
            simp only [List.getElem?_cons_zero, Option.some.injEq] at hl0
            rw [hl0]; rfl
        have hl1 := hlp.out
        rw [hr41] at hl1
        have hLb : L.length ≤ 65536 := by
          have h1 := hl1.1.1
          have h2 := hs.out
          rw [← toList_size, hs1e.out] at h2
          simp only [List.length_cons] at h1 h2
          omega
        have hsp := Lib.hid (item_end hl1 hLb)
        rw [← hs1e.out, ← extract_toList] at hsp
        have hr1i : (1 : Int) ≤ (r.size : Int) := by omega
        have hks := Lib.hid hks
        obtain ⟨nL, hnL⟩ : ∃ nL, nL = L.length := ⟨_, rfl⟩
        rw [← hnL] at f2 hLc
        have hLc := Lib.hid hLc
        replace hnL := Lib.hid hnL
        clear hr41 hl0 hl1 ha h41 hRH
        go_upto_region 16 with fail
        go_region
        go_wp2_with fail
        (try simp only [Exit.inBlock, Exit.then])
        refine bodyPost_ret (results_cell_tmp2 rfl _ _ w.heap.size 52 #[.bool true, .string ⟨#[]⟩, .slice A nL c] (0, 0) _ rfl (show ((((wr.setCell ⟨w.heap.size, 0, none⟩ (.bool true)).setCell ⟨w.heap.size, 1, none⟩ (.string ⟨#[]⟩)).setCell ⟨w.heap.size, 2, none⟩ (.slice A nL c)).drew).heap[w.heap.size]? = some (.cells #[.bool true, .string ⟨#[]⟩, .slice A nL c] 52 (0, 0)) from set3 hblk.out) Tryz.underlying52 rfl (by kernel_rfl) _ _ rfl rfl) rfl ?_
        refine ⟨.mk true [] L, _, _, _, true, r.extract 1 r.size, rfl, ?_, hsp.out, (((hT.out.setCell (Nat.le_refl _) _).setCell (Nat.le_refl _) _).setCell (Nat.le_refl _) _).drew⟩
        unfold FK
        rw [hnL.out]
        exact ⟨A, c, rfl, by rw [← hnL.out]; exact hLc.out, by omega, FKs.move (fun b hb => ⟨⟨by omega, by show b < (((wr.setCell _ _).setCell _ _).setCell _ _).heap.size; rw [size_set, size_set, size_set]; exact hb.2⟩, by show (((wr.setCell _ _).setCell _ _).setCell _ _).heap[b]? = _; exact set3_ne (by omega) _ _ _⟩) L A 0 hks.out⟩
      · have q41 : (((r[0]'hrp).toNat : Int) != 41) = true := by
          rw [← ha, bne_iff_ne]
          intro h
          exact h41 (UInt8.toNat_inj.1 (by have : ((41 : UInt8).toNat : Int) = 41 := rfl; omega))
        have hn41 : r.data.toList[0]? ≠ some 41 := by rw [hl0]; simpa using h41
        have hrb : r.size + L.length ≤ 65536 := by
          have h1 := hlp.out.1.1
          have h2 := hs.out
          rw [toList_size] at h1
          rw [← toList_size, hs1e.out] at h2
          simp only [List.length_cons] at h2
          omega
        have CI := ihH.out (by omega) r wr (by omega)
        rw [show ((deep + 1 : Nat) : Int) = (deep : Int) + 1 from by omega] at CI
        have CIH := Lib.hid CI
        have hn41H := Lib.hid hn41
        have hrbH := Lib.hid hrb
        clear CI hn41 hl0 ha h41 hrb
        go_wp2_with fail
        refine (CIH.out).mono ?_
        rintro ev w3 ⟨f, x0, x1, x2, ok, r3, rfl, hFK, hsp3, hT3⟩
        have hb3 := (hT3.block _ (heap_lt hblk.out)).trans hblk.out
        have hf3 := (hT3.block _ (heap_lt hfb.out)).trans hfb.out
        have hB3 := hRH.out.2.2.1.keep (w' := w3) (fun b h1 h2 => hT3.block b h2) hT3.size
        have hTT := hT.out.trans (hT3.mono hT.out.size)
        obtain ⟨fb, ft, fl⟩ := f
        have hFK2 := hFK
        unfold FK at hFK2
        obtain ⟨A2, c2, hcs, _⟩ := hFK2
        simp only [List.cons.injEq, and_true] at hcs
        obtain ⟨rfl, rfl, rfl⟩ := hcs
        obtain ⟨w4, hw4⟩ : ∃ w4, w4 = w3.alloc (.cells #[.bool fb, .string ⟨ft.toArray⟩, .slice A2 fl.length c2] 52) := ⟨_, rfl⟩
        have hx4 : w4.heap[w3.heap.size]? = some (.cells #[.bool fb, .string ⟨ft.toArray⟩, .slice A2 fl.length c2] 52 (0, 0)) := by rw [hw4]; exact heap_alloc_at _ _
        have hb4 : w4.heap[w.heap.size]? = some (.cells #[.bool false, .string ⟨#[]⟩, .slice none 0 0] 52 (0, 0)) := by rw [hw4, heap_alloc_lt _ _ _ (heap_lt hb3)]; exact hb3
        have hf4 : w4.heap[w.heap.size + 1]? = some (.cells #[.bool true, .string ⟨#[]⟩, v] 52 (0, 0)) := by rw [hw4, heap_alloc_lt _ _ _ (heap_lt hf3)]; exact hf3
        have hT4 : Below w.heap.size w w4 := by rw [hw4]; exact hTT.alloc (Nat.le_of_lt (heap_lt hb3)) _
        have hs4 : w4.heap.size = w3.heap.size + 1 := by rw [hw4]; simp
        have hB4 := hB3.keep (w' := w4) (fun b h1 h2 => by rw [hw4]; exact heap_alloc_lt _ _ _ h2) (by omega)
        have hF4 : FK (fun b => wr.heap.size ≤ b ∧ b < w3.heap.size) w4 (.mk fb ft fl) [.bool fb, .string ⟨ft.toArray⟩, .slice A2 fl.length c2] := FK.move (fun b hb => ⟨hb, by rw [hw4]; exact heap_alloc_lt _ _ _ hb.2⟩) _ _ hFK
        obtain ⟨y0, y1, y2, _, yz⟩ := blk3 hx4
        obtain ⟨k0, k1, k2, hsh, hfz⟩ := blk3 hb4
        obtain ⟨f0, f1, f2, _, hfzf⟩ := blk3 hf4
        obtain ⟨nl, hnl⟩ : ∃ nl, nl = fl.length := ⟨_, rfl⟩
        rw [← hnl] at hw4 hF4 y2 hx4 ⊢
        replace hnl := Lib.hid hnl
        have hw3 := Lib.hid (show wr.heap.size ≤ w3.heap.size from hT3.size)
        have hlo := Lib.hid (show w.heap.size + 1 < wr.heap.size from heap_lt hfb.out)
        replace hx4 := Lib.hid hx4
        replace hb4 := Lib.hid hb4
        replace hf4 := Lib.hid hf4
        replace hT4 := Lib.hid hT4
        replace hs4 := Lib.hid hs4
        replace hB4 := Lib.hid hB4
        replace hF4 := Lib.hid hF4
        replace hsp3 := Lib.hid hsp3
        clear hb3 hf3 hB3 hTT hFK hT3
        cases ok with
        | false =>
          have hsp := Lib.hid (item_nil (item_fail hlp.out hn41H.out hsp3.out (.mk false [] [])) (f0 := .mk false [] []))
          rw [← hs1e.out] at hsp
          go_upto_region 10 with fail
          rw [← hw4]
          replace hw4 := Lib.hid hw4
          go_wp2_with fail
          (try simp only [Exit.inBlock, Exit.then])
          refine bodyPost_ret (results_cell_tmp2 rfl _ _ w.heap.size 52 #[.bool false, .string ⟨#[]⟩, .slice none 0 0] (0, 0) _ rfl (set3 hb4.out) Tryz.underlying52 rfl (by kernel_rfl) _ _ rfl rfl) rfl ?_
          exact ritemPost_no hsp.out hT4.out _ _ _
        | true =>
          have hlp2 := Lib.hid (loop_step hlp.out hn41H.out hsp3.out)
          have hr3 := Lib.hid (hsp3.out.2.1 rfl)
          obtain ⟨iF, hiF, hzF, hsF, hbF⟩ := infoF
          obtain ⟨cs, hown, hFC⟩ := hB4.out
          have hownH := Lib.hid hown
          have hFCH := Lib.hid hFC
          have hlb := Lib.hid (show L.length ≤ 65536 by have := hrbH.out; omega)
          obtain ⟨nL, hnL⟩ : ∃ nL, nL = L.length := ⟨_, rfl⟩
          rw [← hnL] at hownH hlb
          replace hnL := Lib.hid hnL
          have hnb := Lib.hid (show some (w.heap.size + 1) ≠ v.ownBlock from fun e => by have := (hB4.out.lt _ e.symm).1; omega)
          clear hown hFC
          go_upto_region 10 with fail
          rw [← hw4]
          replace hw4 := Lib.hid hw4
          go_upto_region 12 with fail
          go_wp2_with (at_builtin; refine wpList_append_lies _ (by rfl) _ _ _ (by rfl) (w.heap.size + 2) 52 iF _ 3 48 Tryz.underlying50 hiF hzF hsF hbF rfl (by omega) v nL cs (by rfl) (hownH.out.alloc _) ⟨w4.heap.size, 0, none⟩ 1 1 [.bool fb, .string ⟨ft.toArray⟩, .slice A2 nl c2] (by rfl) (by rfl) (World.news_of_block (heap_alloc_at w4 _)) (by simp [Value.oneCell']) (by omega) (by have := hlb.out; unfold maxLen; omega) (by have := hlb.out; omega) (by have := hlo.out; have := hw3.out; have := hs4.out; simp; omega) (w4.heap.size + 1) (by simp) ?_; intro g5 cap5 w5 hown5 hgrow5 hat5 hlt5; have hf5 := (hgrow5.block (w.heap.size + 1) (by have := heap_lt hf4.out; simp; omega) hnb.out).trans ((heap_alloc_lt w4 _ _ (heap_lt hf4.out)).trans hf4.out); have f5 : w5.cell? ⟨w.heap.size + 1, 2, none⟩ = some v := (by rw [cell_of hf5]; rfl); have z5 : w5.frozen? ⟨w.heap.size + 1, 2, none⟩ = false := fr_of hf5 2; replace hf5 := Lib.hid hf5; replace hgrow5 := Lib.hid hgrow5; replace hown5 := Lib.hid hown5; replace hat5 := Lib.hid hat5)
          go_roundg r3.size
          case measure => have := hr3.out; rw [toList_size, toList_size] at this; rw [hgk.out]; exact this
          case rel =>
            refine ⟨L ++ [.mk fb ft fl], .slice (some ⟨g5, 0, none⟩) (nL + 1) cap5, r3, rfl, rfl, ?_⟩
            have hsz5 := hgrow5.out.size
            simp only [size_alloc] at hsz5
            have blk5 : ∀ b, b < w4.heap.size → some b ≠ v.ownBlock → w5.heap[b]? = w4.heap[b]? := fun b h1 h2 => (hgrow5.out.block b (by simp only [size_alloc]; omega) h2).trans (heap_alloc_lt w4 _ _ h1)
            have hvb : ∀ b, b < w.heap.size + 2 → some b ≠ v.ownBlock := fun b hb e => by have := (hB4.out.lt _ e.symm).1; omega
            have hsz4 := heap_lt hf4.out
            have hgr : w4.grownBy w5 v.ownBlock := ⟨hgrow5.out.os, hgrow5.out.tape, hgrow5.out.output, by omega, fun k h1 h2 => blk5 k h1 h2⟩
            have hT5 : Below w.heap.size w w5 := ⟨hgr.os.trans hT4.out.os, hgr.tape.trans hT4.out.tape, hgr.output.trans hT4.out.output, Nat.le_trans hT4.out.size hgr.size, fun k h1 => (blk5 k (by omega) (hvb k (by omega))).trans (hT4.out.block k h1)⟩
            have hbag : Bag (w.heap.size + 2) w5 (.slice (some ⟨g5, 0, none⟩) (nL + 1) cap5) (L ++ [.mk fb ft fl]) := by
              rw [hnL.out] at hown5 ⊢
              refine Bag.push hFCH.out (FK.move (fun b hb => ⟨⟨by have := hlo.out; omega, by have := hs4.out; omega, fun e => by have := (hRH.out.2.2.1.lt _ e.symm).2; omega⟩, rfl⟩) _ _ hF4.out) hown5.out hgr ?_
              rcases hat5.out with h | h
              · exact .inl h
              · right; omega
            refine ⟨?_, ?_, ?_, hlp2.out, hT5.setCell (by show w.heap.size ≤ w.heap.size + 1; omega) _⟩
            · rw [heap_set_ne _ _ _ _ (by show w.heap.size ≠ w.heap.size + 1; omega), blk5 _ (by omega) (hvb _ (by omega))]
              exact hb4.out
            · exact heap_set _ _ _ _ _ _ _ hf5.out
            · exact hbag.keep (fun b h1 h2 => heap_set_ne _ _ _ _ (by show b ≠ w.heap.size + 1; omega)) (by rw [size_set]; exact Nat.le_refl _)
theorem ritem_c (d : Nat) : ∀ deep : Nat, deep + d = 8 → RItemAt deep := by
  induction d with
  | zero =>
    intro deep hd s w hs
    by_cases h0 : s.data.toList[0]? = some 40
    · exact ritem_list_c deep (by omega) (fun h8 => absurd h8 (by omega)) s w hs h0
    · exact ritem_text_c deep s w hs h0
  | succ d ih =>
    intro deep hd s w hs
    by_cases h0 : s.data.toList[0]? = some 40
    · exact ritem_list_c deep (by omega) (fun h8 => ih (deep + 1) (by omega)) s w hs h0
    · exact ritem_text_c deep s w hs h0
end Go.Proofs.YtbefkoljcacpcaaGreatDoor.Tm
set_option linter.unusedVariables false
set_option linter.unusedSimpArgs false
namespace Go.Proofs.YtbefkoljcacpcaaGreatDoor.Tm
open Go Go.RowKit Go.Proofs.YtbefkoljcacpcaaGreatDoor.B Go.Proofs.YtbefkoljcacpcaaGreatDoor.Bld
def RReadPost (s : ByteArray) (w : World) (ev : Ending) (w' : World) : Prop :=
  ∃ f c0 c1 c2 er, ev = .returned (.tuple #[.agg #[c0, c1, c2], .int .i64 er]) ∧ FK (fun b => w.heap.size ≤ b ∧ b < w'.heap.size) w' f [c0, c1, c2] ∧ (f.small = true ∧ (er = 0 ∨ er = 5)) ∧
    (∀ f', f'.right = true → f'.depth ≤ 8 → s.data.toList = f'.bytes → er = 0 ∧ f = f') ∧ Below w.heap.size w w'
set_option maxRecDepth 100000 in
set_option maxHeartbeats 4000000 in
theorem rread_c (s : ByteArray) (w : World) (hs : s.size ≤ 65536) : Calls Tryz.prog 31 #[.string s] w (RReadPost s w) := by
  have hsi : ¬ (65536 : Int) < (s.size : Int) := by omega
  obtain ⟨w0, hw0⟩ : ∃ w0, w0 = w.alloc (.cells #[.bool false, .string ⟨#[]⟩, .slice none 0 0] 52) := ⟨_, rfl⟩
  have hs0 : w0.heap.size = w.heap.size + 1 := by rw [hw0]; simp
  have hr0 : w0.heap[w.heap.size]? = some (.cells #[.bool false, .string ⟨#[]⟩, .slice none 0 0] 52 (0, 0)) := by rw [hw0]; exact heap_alloc_at _ _
  have hb0 : Below w.heap.size w w0 := by rw [hw0]; exact (Below.refl _ _).alloc (Nat.le_refl _) _
  have CI := Lib.hid (show Calls Tryz.prog 58 #[.string s, .int .i64 0] w0 (RItemPost 0 s w0) from ritem_c 8 0 rfl s w0 hs)
  replace hs0 := Lib.hid hs0
  replace hr0 := Lib.hid hr0
  replace hb0 := Lib.hid hb0
  go_enter Tryz.func31, Tryz.ntmps31
  go_upto_region 1 with fail
  rw [← hw0]
  replace hw0 := Lib.hid hw0
  go_wp2_with fail
  refine (CI.out).mono ?_
  rintro ev w3 ⟨f, x0, x1, x2, ok, r3, rfl, hFK, hsp3, hT3⟩
  have hb3 := (hT3.block _ (heap_lt hr0.out)).trans hr0.out
  have hbw := Lib.hid (hb0.out.trans (hT3.mono hb0.out.size))
  obtain ⟨fb, ft, fl⟩ := f
  have hFK2 := hFK
  unfold FK at hFK2
  obtain ⟨A2, c2, hcs, _⟩ := hFK2
  simp only [List.cons.injEq, and_true] at hcs
  obtain ⟨rfl, rfl, rfl⟩ := hcs
  obtain ⟨nl, hnl⟩ : ∃ nl, nl = fl.length := ⟨_, rfl⟩
  rw [← hnl] at hFK ⊢
  obtain ⟨w4, hw4⟩ : ∃ w4, w4 = w3.alloc (.cells #[.bool fb, .string ⟨ft.toArray⟩, .slice A2 nl c2] 52) := ⟨_, rfl⟩
  have hx4 : w4.heap[w3.heap.size]? = some (.cells #[.bool fb, .string ⟨ft.toArray⟩, .slice A2 nl c2] 52 (0, 0)) := by rw [hw4]; exact heap_alloc_at _ _
  have hb4 : w4.heap[w.heap.size]? = some (.cells #[.bool false, .string ⟨#[]⟩, .slice none 0 0] 52 (0, 0)) := by rw [hw4, heap_alloc_lt _ _ _ (heap_lt hb3)]; exact hb3
  have hB4 := Lib.hid (show Below w.heap.size w w4 by rw [hw4]; exact hbw.out.alloc (Nat.le_of_lt (heap_lt hb3)) _)
  have hF4 : FK (fun b => w0.heap.size ≤ b ∧ b < w3.heap.size) w4 (.mk fb ft fl) [.bool fb, .string ⟨ft.toArray⟩, .slice A2 nl c2] := FK.move (fun b hb => ⟨hb, by rw [hw4]; exact heap_alloc_lt _ _ _ hb.2⟩) _ _ hFK
  have hF4H := Lib.hid hF4
  have hs4 := Lib.hid (show w3.heap.size < w4.heap.size from heap_lt hx4)
  obtain ⟨y0, y1, y2, _, yz⟩ := blk3 hx4
  obtain ⟨k0, k1, k2, hsh, hfz⟩ := blk3 hb4
  replace hnl := Lib.hid hnl
  have hb4H := Lib.hid hb4
  have hspH := Lib.hid hsp3
  have fin : (ok = false ∨ ¬ r3.data.toList = []) → RReadPost s w (.returned (.tuple #[.agg #[.bool false, .string ⟨#[]⟩, .slice none 0 0], .int .i64 5])) (((w4.setCell ⟨w.heap.size, 0, none⟩ (.bool false)).setCell ⟨w.heap.size, 1, none⟩ (.string ⟨#[]⟩)).setCell ⟨w.heap.size, 2, none⟩ (.slice none 0 0)) := by
    intro h
    refine ⟨.mk false [] [], _, _, _, 5, rfl, FK.text _ _ ⟨#[]⟩, ⟨rfl, .inr rfl⟩, fun f' h1 h2 h3 => ?_, ((hB4.out.setCell (Nat.le_refl _) _).setCell (Nat.le_refl _) _).setCell (Nat.le_refl _) _⟩
    obtain ⟨e1, _, e2⟩ := hspH.out.2.2 f' [] h1 (by omega) (by rw [h3, List.append_nil])
    rcases h with h | h
    · rw [h] at e1; cases e1
    · exact absurd e2 h
  have finH := Lib.hid fin
  clear fin hx4 hb4 hF4 hFK hsp3 hT3 hb3
  cases ok with
  | false =>
    go_upto_region 4 with fail
    rw [← hw4]
    replace hw4 := Lib.hid hw4
    go_wp2_with fail
    (try simp only [Exit.inBlock, Exit.then])
    refine bodyPost_ret (results_cell_tmp rfl _ _ w.heap.size 52 #[.bool false, .string ⟨#[]⟩, .slice none 0 0] (0, 0) _ rfl (set3 hb4H.out) Tryz.underlying52 rfl (by kernel_rfl) _ rfl) rfl ?_
    exact finH.out (.inl (by first | trivial | rfl))
  | true =>
    by_cases hr : r3.data.toList = []
    · have hr1 : r3.toList = [] := by rw [ByteArray.toList_eq]; exact hr
      replace hr := Lib.hid hr
      go_upto_region 4 with fail
      rw [← hw4]
      replace hw4 := Lib.hid hw4
      go_wp2_with fail
      (try simp only [Exit.inBlock, Exit.then])
      refine bodyPost_ret (results_cell_tmp rfl _ _ w.heap.size 52 #[.bool fb, .string ⟨ft.toArray⟩, .slice A2 nl c2] (0, 0) _ rfl (set3 hb4H.out) Tryz.underlying52 rfl (by kernel_rfl) _ rfl) rfl ?_
      refine ⟨.mk fb ft fl, _, _, _, 0, rfl, ?_, ⟨hspH.out.1.2 rfl, .inl rfl⟩, fun f' h1 h2 h3 => ?_, ((hB4.out.setCell (Nat.le_refl _) _).setCell (Nat.le_refl _) _).setCell (Nat.le_refl _) _⟩
      · refine FK.move (fun b hb => ⟨⟨by have := hs0.out; omega, by rw [size_set, size_set, size_set]; have := hs4.out; omega⟩, set3_ne (by have := hs0.out; omega) _ _ _⟩) _ _ hF4H.out
      · exact ⟨rfl, (hspH.out.2.2 f' [] h1 (by omega) (by rw [h3, List.append_nil])).2.1⟩
    · have hr1 : ¬ r3.toList = [] := by rw [ByteArray.toList_eq]; exact hr
      have hr2 : r3.toList.isEmpty = false := by simpa using hr1
      replace hr := Lib.hid hr
      go_upto_region 4 with fail
      rw [← hw4]
      replace hw4 := Lib.hid hw4
      go_wp2_with fail
      (try simp only [Exit.inBlock, Exit.then])
      refine bodyPost_ret (results_cell_tmp rfl _ _ w.heap.size 52 #[.bool false, .string ⟨#[]⟩, .slice none 0 0] (0, 0) _ rfl (set3 hb4H.out) Tryz.underlying52 rfl (by kernel_rfl) _ rfl) rfl ?_
      exact finH.out (.inr hr.out)
set_option maxRecDepth 100000 in
set_option maxHeartbeats 4000000 in
theorem rwrite_c (f : F) (c0 c1 c2 : Value) (w : World) (hf : FV w.heap.size w f [c0, c1, c2]) (hr : f.right = true) (hd : f.depth ≤ 8) (hlen : f.bytes.length ≤ 65536) :
    Calls Tryz.prog 25 #[.agg #[c0, c1, c2]] w fun ev w' => ev = .returned (.tuple #[.string ⟨f.bytes.toArray⟩, .int .i64 0]) ∧ Below w.heap.size w w' := by
  obtain ⟨w0, hw0⟩ : ∃ w0, w0 = w.alloc (.cells #[c0, c1, c2] 52) := ⟨_, rfl⟩
  have hb0 : Below w.heap.size w w0 := by rw [hw0]; exact (Below.refl _ _).alloc (Nat.le_refl _) _
  have hx0 : w0.heap[w.heap.size]? = some (.cells #[c0, c1, c2] 52 (0, 0)) := by rw [hw0]; exact heap_alloc_at _ _
  have fvl : ∀ W, Below w0.heap.size w0 W → FV w.heap.size W f [c0, c1, c2] := fun W h => FV.below (hb0.trans (h.mono hb0.size)) _ _ hf
  have szl : ∀ W, Below w0.heap.size w0 W → w.heap.size ≤ W.heap.size := fun W h => Nat.le_trans hb0.size h.size
  have C1 := Lib.hid (fun W (h : Below w0.heap.size w0 W) => rright_any w.heap.size _ f (Nat.lt_succ_self _) hr c0 c1 c2 W (fvl W h) (szl W h) hd hlen)
  have C2 := Lib.hid (fun W (h : Below w0.heap.size w0 W) => rDepth_any w.heap.size _ f (Nat.lt_succ_self _) hr c0 c1 c2 W (fvl W h) (szl W h) hd hlen)
  have C3 := Lib.hid (fun W (h : Below w0.heap.size w0 W) => rsize_any w.heap.size _ f (Nat.lt_succ_self _) hr c0 c1 c2 W (fvl W h) (szl W h) hd hlen)
  have C4 := Lib.hid (fun W (h : Below w0.heap.size w0 W) => rbytes_any w.heap.size _ f (Nat.lt_succ_self _) hr c0 c1 c2 W (fvl W h) (szl W h) hd hlen)
  have hdi : ¬ (8 : Int) < ((f.depth : Nat) : Int) := by omega
  have hli : ¬ (65536 : Int) < ((f.bytes.length : Nat) : Int) := by omega
  generalize f.depth = dd at *
  generalize f.bytes.length = bl at *
  generalize f.bytes = fb at *
  have hx0H := Lib.hid hx0
  obtain ⟨fb0, ft, fl⟩ := f
  unfold FV at hf
  obtain ⟨A2, cc, hcs, _⟩ := hf
  simp only [List.cons.injEq, and_true] at hcs
  obtain ⟨rfl, rfl, rfl⟩ := hcs
  generalize fl.length = fn at *
  obtain ⟨k0, k1, k2, _, _⟩ := blk3 hx0
  replace hb0 := Lib.hid hb0
  clear hx0 hr hd hlen fvl szl
  go_enter Tryz.func25, Tryz.ntmps25
  go_upto_region 1 with fail
  rw [← hw0]
  replace hw0 := Lib.hid hw0
  go_wp2_with fail
  refine (C1.out w0 (Below.refl _ _)).mono ?_
  rintro ev w1 ⟨rfl, hb1⟩
  obtain ⟨a0, a1, a2, _, _⟩ := blk3 ((hb1.block _ (heap_lt hx0H.out)).trans hx0H.out)
  have D2 := C2.out w1 hb1
  replace hb1 := Lib.hid hb1
  go_wp2_with fail
  refine D2.mono ?_
  rintro ev w2 ⟨rfl, hb2⟩
  have hb2 := hb1.out.trans (hb2.mono hb1.out.size)
  obtain ⟨b0, b1, b2, _, _⟩ := blk3 ((hb2.block _ (heap_lt hx0H.out)).trans hx0H.out)
  have D3 := C3.out w2 hb2
  replace hb2 := Lib.hid hb2
  clear D2
  go_wp2_with fail
  refine D3.mono ?_
  rintro ev w3 ⟨rfl, hb3⟩
  have hb3 := hb2.out.trans (hb3.mono hb2.out.size)
  obtain ⟨d0, d1, d2, _, _⟩ := blk3 ((hb3.block _ (heap_lt hx0H.out)).trans hx0H.out)
  have D4 := C4.out w3 hb3
  replace hb3 := Lib.hid hb3
  clear D3
  go_wp2_with fail
  refine D4.mono ?_
  rintro ev w4 ⟨rfl, hb4⟩
  have hb4 := Lib.hid (hb3.out.trans (hb4.mono hb3.out.size))
  go_wp2_with fail
  go_ret2
  exact ⟨rfl, hb0.out.trans (hb4.out.mono hb0.out.size)⟩
end Go.Proofs.YtbefkoljcacpcaaGreatDoor.Tm
set_option linter.unusedVariables false
set_option linter.unusedSimpArgs false
namespace Go.Proofs.YtbefkoljcacpcaaGreatDoor.Wi
open Go Go.RowKit Go.Proofs.YtbefkoljcacpcaaGreatDoor.B Go.Proofs.YtbefkoljcacpcaaGreatDoor.Tm
def dg (l : List UInt8) : ByteArray := Sha.sha Sha.K Sha.H0 ⟨l.toArray⟩
def lnums (v : List Int) : List F := v.map fun x => txt (Lib.itoa x)
def lhave (l : List ByteArray) : List F := l.map fun s => txt s.data.toList
def lbody (v : List Int) (l : List ByteArray) (p : ByteArray) : List F := lnums v ++ [lst (lhave l), txt p.data.toList]
def lfull (v : List Int) (l : List ByteArray) (p : ByteArray) : List F := lbody v l p ++ [txt (dg (lst (lbody v l p)).bytes).data.toList]
def lbytes (v : List Int) (l : List ByteArray) (p : ByteArray) : List UInt8 := (lst (lfull v l p)).bytes
theorem txt_right (t : List UInt8) : (txt t).right = true := by unfold txt F.right; rfl
theorem txt_depth (t : List UInt8) : (txt t).depth = 0 := by unfold txt F.depth; rfl
theorem lst_right {l : List F} (h : rights l = true) : (lst l).right = true := by unfold lst F.right; rw [h]; rfl
theorem lst_depth (l : List F) : (lst l).depth = depths l + 1 := by unfold lst; rw [F.depth]
theorem rights_map {α : Type} (g : α → List UInt8) : ∀ l : List α, rights (l.map fun x => txt (g x)) = true
  | [] => by unfold rights; rfl
  | a :: l => by rw [List.map_cons, rights, txt_right, rights_map g l]; rfl
theorem depths_map {α : Type} (g : α → List UInt8) : ∀ l : List α, depths (l.map fun x => txt (g x)) = 0
  | [] => by unfold depths; rfl
  | a :: l => by rw [List.map_cons, depths, txt_depth, depths_map g l]; rfl
theorem lbody_right (v : List Int) (l : List ByteArray) (p : ByteArray) : (lst (lbody v l p)).right = true := by
  refine lst_right ?_
  unfold lbody
  rw [rights_append]
  unfold lnums
  rw [rights_map, rights, rights, rights, lst_right (by unfold lhave; exact rights_map _ _), txt_right]
  rfl
theorem lfull_right (v : List Int) (l : List ByteArray) (p : ByteArray) : (lst (lfull v l p)).right = true := by
  refine lst_right ?_
  have := lbody_right v l p
  unfold lst F.right at this
  simp only [Bool.and_eq_true] at this
  unfold lfull
  rw [rights_append, this.2, rights, rights, txt_right]
  rfl
theorem lbody_depths (v : List Int) (l : List ByteArray) (p : ByteArray) : depths (lbody v l p) = 1 := by
  unfold lbody
  rw [depths_append]
  unfold lnums
  rw [depths_map, depths, depths, depths, lst_depth, txt_depth]
  unfold lhave
  rw [depths_map]
  rfl
theorem lfull_depths (v : List Int) (l : List ByteArray) (p : ByteArray) : depths (lfull v l p) = 1 := by
  unfold lfull
  rw [depths_append, lbody_depths, depths, depths, txt_depth]
  rfl
theorem txt_len (t : List UInt8) (h : t.length ≤ 65536) : (txt t).bytes.length ≤ t.length + 6 := by
  unfold txt
  rw [txt_bytes, List.length_append, List.length_cons]
  have := dec_len5 t.length h
  omega
theorem bytess_map_len {α : Type} (g : α → List UInt8) (c : Nat) (hc : c ≤ 65536) : ∀ l : List α, (∀ x ∈ l, (g x).length ≤ c) → (bytess (l.map fun x => txt (g x))).length ≤ l.length * (c + 6)
  | [], _ => by unfold bytess; simp
  | a :: l, h => by
    rw [List.map_cons, bytess, List.length_append, List.length_cons, Nat.add_mul, Nat.one_mul]
    have h1 := txt_len (g a) (Nat.le_trans (h a (by simp)) hc)
    have h2 := h a (by simp)
    have h3 := bytess_map_len g c hc l (fun x hx => h x (by simp [hx]))
    omega
theorem lst_len (l : List F) : (lst l).bytes.length = (bytess l).length + 2 := by unfold lst; rw [lst_bytes]; simp
theorem flat4 : ∀ l : List Sha.W, (l.flatMap Sha.ofWord).length = 4 * l.length
  | [] => rfl
  | x :: l => by rw [List.flatMap_cons, List.length_append, flat4 l, List.length_cons]; unfold Sha.ofWord; simp; omega
theorem dg_size (l : List UInt8) : (dg l).size = 32 := by
  unfold dg Sha.sha
  show (Sha.shaL Sha.K Sha.H0 _).toArray.size = 32
  rw [List.size_toArray]
  unfold Sha.shaL
  rw [flat4, Sha.runs_length Sha.K _ Sha.H0 _ (Nat.le_refl _) (by rfl)]
theorem wright_nums {v : List Int} {l : List ByteArray} {p : ByteArray} (h : wright v l p = true) (k : Nat) (hk : k < 6) : 0 ≤ v.getD k 0 ∧ v.getD k 0 ≤ 2147483647 := by
  unfold wright numsOk at h
  simp only [Bool.and_eq_true] at h
  have := List.all_eq_true.1 h.1 k (List.mem_range.2 hk)
  unfold numOk at this
  simp only [Bool.and_eq_true, decide_eq_true_eq] at this
  have hl : lim k ≤ 2147483647 := by
    have : k = 0 ∨ k = 1 ∨ k = 2 ∨ k = 3 ∨ k = 4 ∨ k = 5 := by omega
    rcases this with rfl | rfl | rfl | rfl | rfl | rfl <;> decide
  omega
theorem wright_have {v : List Int} {l : List ByteArray} {p : ByteArray} (h : wright v l p = true) : l.length ≤ 128 ∧ (∀ s ∈ l, s.size = 64) ∧ p.size ≤ 12000 := by
  unfold wright at h
  simp only [Bool.and_eq_true] at h
  have h2 := h.2.2
  split at h2
  · simp only [Bool.and_eq_true, decide_eq_true_eq] at h2
    obtain ⟨hp, hn⟩ := h2
    unfold namesOk at hn
    simp only [Bool.and_eq_true, decide_eq_true_eq] at hn
    refine ⟨hn.2, fun s hs => ?_, ?_⟩
    · obtain ⟨k, hk, rfl⟩ := List.getElem_of_mem hs
      have := List.all_eq_true.1 hn.1 k (List.mem_range.2 hk)
      unfold okAt Dig.rightL at this
      simp only [Bool.and_eq_true, decide_eq_true_eq] at this
      rw [List.getD_eq_getElem?_getD, List.getElem?_eq_getElem hk] at this
      have := this.1.1
      rwa [toList_size] at this
    · rw [ByteArray.toList_eq] at hp
      have := toList_size p
      rw [hp] at this
      simp at this
      omega
  · split at h2
    · simp only [Bool.and_eq_true, decide_eq_true_eq] at h2
      obtain rfl := List.eq_nil_of_length_eq_zero h2.1
      exact ⟨by simp, fun s hs => (by cases hs), h2.2.2⟩
    · split at h2
      · simp only [Bool.and_eq_true, decide_eq_true_eq] at h2
        obtain rfl := List.eq_nil_of_length_eq_zero h2.2
        refine ⟨by simp, fun s hs => (by cases hs), ?_⟩
        have hp := h2.1
        rw [ByteArray.toList_eq] at hp
        have := toList_size p
        rw [hp] at this
        simp at this
        omega
      · cases h2
theorem itoa_le (n : Int) (h0 : 0 ≤ n) (h1 : n ≤ 2147483647) : (Lib.itoa n).length ≤ 21 := Lib.itoa_length_le n (by omega) (by omega)
theorem lbody_len {v : List Int} {l : List ByteArray} {p : ByteArray} (hv : v.length = 6) (h : wright v l p = true) : (lst (lbody v l p)).bytes.length ≤ 22000 := by
  obtain ⟨h1, h2, h3⟩ := wright_have h
  rw [lst_len]
  unfold lbody
  rw [bytess_append, List.length_append]
  have e1 : (bytess (lnums v)).length ≤ 6 * (21 + 6) := by
    have := bytess_map_len (fun x : Int => Lib.itoa x) 21 (by omega) v (fun x hx => by
      obtain ⟨k, hk, rfl⟩ := List.getElem_of_mem hx
      have := wright_nums h k (by omega)
      rw [List.getD_eq_getElem?_getD, List.getElem?_eq_getElem hk] at this
      exact itoa_le _ this.1 this.2)
    rw [hv] at this
    exact this
  have e2 : (bytess (lhave l)).length ≤ l.length * (64 + 6) := bytess_map_len (fun s : ByteArray => s.data.toList) 64 (by omega) l (fun s hs => by rw [toList_size, h2 s hs]; exact Nat.le_refl _)
  have e3 := txt_len p.data.toList (by rw [toList_size]; omega)
  rw [toList_size] at e3
  rw [bytess, bytess, bytess, List.length_append, List.length_append, lst_len, List.length_nil]
  have : l.length * (64 + 6) ≤ 128 * 70 := Nat.mul_le_mul_right _ h1
  omega
theorem lfull_len {v : List Int} {l : List ByteArray} {p : ByteArray} (hv : v.length = 6) (h : wright v l p = true) : (lst (lfull v l p)).bytes.length ≤ 23000 := by
  have h1 := lbody_len hv h
  rw [lst_len] at h1 ⊢
  unfold lfull
  rw [bytess_append, List.length_append, bytess, bytess, List.append_nil]
  have e3 := txt_len (dg (lst (lbody v l p)).bytes).data.toList (by rw [toList_size, dg_size]; omega)
  rw [toList_size, dg_size] at e3
  omega
end Go.Proofs.YtbefkoljcacpcaaGreatDoor.Wi
