/- What LawWireReads, LawWireWrites, LawWireSpoilt lean on, part q of 25: the texts TmE, WiR. -/
import Derived.Test.YtbefkoljcacpcaaGreatDoorTVo
import Derived.Test.YtbefkoljcacpcaaGreatDoorTVp
set_option linter.unusedVariables false
set_option linter.unusedSimpArgs false
namespace Go.Proofs.YtbefkoljcacpcaaGreatDoor.Tm
open Go Go.RowKit Go.Proofs.YtbefkoljcacpcaaGreatDoor.B Go.Proofs.YtbefkoljcacpcaaGreatDoor.Bld Go.Proofs.YtbefkoljcacpcaaGreatDoorW.PrintWords Go.Proofs.YtbefkoljcacpcaaGreatDoorW.PrintLast Go.Proofs.YtbefkoljcacpcaaGreatDoorW.PrintMore
attribute [local go_sem] max2_int max_two
theorem depths_take (l : List F) (k : Nat) (h : k < l.length) : depths (l.take (k + 1)) = max (depths (l.take k)) (l[k]).depth := by
  rw [List.take_add_one, List.getElem?_eq_getElem h, Option.toList_some, depths_append, depths, depths, Nat.max_zero]
theorem depths_take_le (l : List F) (k : Nat) : depths (l.take k) ≤ depths l := by
  have := depths_append (a := l.take k) (b := l.drop k)
  rw [List.take_append_drop] at this
  omega
theorem getelem_le (l : List F) (k : Nat) (h : k < l.length) : (l[k]).bytes.length ≤ (bytess l).length := by
  have h1 := bytess_le l (k + 1)
  rw [bytess_take l k h, List.length_append] at h1
  omega
theorem arr_cat (a b : List UInt8) : (ByteArray.mk a.toArray) ++ (ByteArray.mk b.toArray) = ByteArray.mk (a ++ b).toArray := by
  apply ByteArray.ext
  rw [ByteArray.data_append]
  simp
theorem arr_size (a : List UInt8) : (ByteArray.mk a.toArray).size = a.length := by show a.toArray.size = _; simp
theorem txt_bytes (t : List UInt8) (l : List F) : (F.mk false t l).bytes = Lib.decDigits t.length ++ 58 :: t := by rw [F.bytes]
theorem lst_bytes (t : List UInt8) (l : List F) : (F.mk true t l).bytes = 40 :: (bytess l ++ [41]) := by rw [F.bytes]
def Pright (B : Nat) (f : F) : Prop := ∀ (c0 c1 c2 : Value) (w : World), FV B w f [c0, c1, c2] → B ≤ w.heap.size → f.depth ≤ 8 → f.bytes.length ≤ 65536 →
  Calls Tryz.prog 47 #[.agg #[c0, c1, c2]] w fun ev w' => ev = .returned (.bool true) ∧ Below w.heap.size w w'
set_option maxRecDepth 100000 in
set_option maxHeartbeats 4000000 in
theorem rright_text (B : Nat) (t : List UInt8) : Pright B (.mk false t []) := by
  intro c0 c1 c2 w hf hB hd hlen
  unfold FV at hf
  obtain ⟨A, c, hcs, hc, hll, hfs⟩ := hf
  simp only [List.cons.injEq, and_true] at hcs
  obtain ⟨rfl, rfl, rfl⟩ := hcs
  rw [show ([] : List F).length = 0 from rfl]
  have hd0 : (F.mk false t []).depth = 0 := by rw [F.depth]
  rw [txt_bytes] at hlen
  have hll2 : (Lib.decDigits t.length ++ 58 :: t).length = (Lib.decDigits t.length).length + 1 + t.length := by simp; omega
  rw [hll2] at hlen
  obtain ⟨w0, hw0⟩ : ∃ w0, w0 = w.alloc (.cells #[.bool false, .string ⟨t.toArray⟩, .slice A 0 c] 52) := ⟨_, rfl⟩
  have hb0 : Below w.heap.size w w0 := by rw [hw0]; exact (Below.refl _ _).alloc (Nat.le_refl _) _
  have hx0 : w0.heap[w.heap.size]? = some (.cells #[.bool false, .string ⟨t.toArray⟩, .slice A 0 c] 52 (0, 0)) := by rw [hw0]; exact heap_alloc_at _ _
  obtain ⟨k0, k1, k2, _, _⟩ := blk3 hx0
  have l1 := Lat.cell k1
  have hts : (ByteArray.mk t.toArray).size = t.length := arr_size t
  replace hb0 := Lib.hid hb0
  replace hx0 := Lib.hid hx0
  replace hd0 := Lib.hid hd0
  replace hll2 := Lib.hid hll2
  clear hfs
  go_enter Tryz.func47, Tryz.ntmps47
  go_upto_region 1 with fail
  rw [← hw0]
  replace hw0 := Lib.hid hw0
  go_wp2_with fail
  go_ret
  exact ⟨rfl, hb0.out⟩
set_option maxRecDepth 100000 in
set_option maxHeartbeats 4000000 in
theorem rright_list (B : Nat) (l : List F) (ih : ∀ (k : Nat) (h : k < l.length), Pright B l[k]) : Pright B (.mk true [] l) := by
  intro c0 c1 c2 w hf hB hd hlen
  unfold FV at hf
  obtain ⟨A, c, hcs, hc, hll, hfs⟩ := hf
  simp only [List.cons.injEq, and_true] at hcs
  obtain ⟨rfl, rfl, rfl⟩ := hcs
  have hd0 : (F.mk true [] l).depth = depths l + 1 := by rw [F.depth]
  have hbl : (F.mk true [] l).bytes.length = (bytess l).length + 2 := by rw [lst_bytes]; simp
  rw [hd0] at hd
  rw [hbl] at hlen
  obtain ⟨w0, hw0⟩ : ∃ w0, w0 = w.alloc (.cells #[.bool true, .string ⟨#[]⟩, .slice A l.length c] 52) := ⟨_, rfl⟩
  have hb0 : Below w.heap.size w w0 := by rw [hw0]; exact (Below.refl _ _).alloc (Nat.le_refl _) _
  have hx0 : w0.heap[w.heap.size]? = some (.cells #[.bool true, .string ⟨#[]⟩, .slice A l.length c] 52 (0, 0)) := by rw [hw0]; exact heap_alloc_at _ _
  obtain ⟨k0, k1, k2, _, _⟩ := blk3 hx0
  obtain ⟨n, hn⟩ : ∃ n, n = l.length := ⟨_, rfl⟩
  rw [← hn] at hll hc hw0 hx0 k2 ⊢
  replace hn := Lib.hid hn
  replace hb0 := Lib.hid hb0
  replace hx0 := Lib.hid hx0
  have hfsH := Lib.hid (FVs.below (hb0.out.mono hB) l A 0 hfs)
  have ihH := Lib.hid ih
  replace hd0 := Lib.hid hd0
  have hdH := Lib.hid hd
  have hlenH := Lib.hid hlen
  have hblH := Lib.hid hbl
  clear hfs ih hd hlen hbl
  go_enter Tryz.func47, Tryz.ntmps47
  go_upto_region 1 with fail
  rw [← hw0]
  replace hw0 := Lib.hid hw0
  go_wp2_with fail
  go_loopg [3] n (fun g' i W => ∃ k : Nat, g' = n - k ∧ k ≤ n ∧ i = .int .i64 k ∧ Below w0.heap.size w0 W)
  case atStart => exact ⟨0, rfl, by omega, rfl, Below.refl _ _⟩
  case round =>
    obtain ⟨k, hg', hk, rfl, hb⟩ := hrel
    subst hg'
    have hx := (hb.block _ (heap_lt hx0.out)).trans hx0.out
    obtain ⟨q0, q1, q2, _, _⟩ := blk3 hx
    have hbH := Lib.hid hb
    clear hx
    by_cases hkn : k < n
    · have hki : (k : Int) < (n : Int) := by omega
      have hkl : k < l.length := by rw [← hn.out]; exact hkn
      have hfk := FVs.get (FVs.below (hb.mono (Nat.le_trans hB hb0.out.size)) l A 0 hfsH.out) k hkl
      rw [Nat.zero_add] at hfk
      obtain ⟨b, o, c0, c1, c2, rfl, hbB, h0, h1, h2, hf⟩ := hfk
      have hdl := depths_get (l := l) k hkl
      have hbl := getelem_le l k hkl
      have CP := ihH.out k hkl c0 c1 c2 wr hf (Nat.le_trans hB (Nat.le_trans hb0.out.size hb.size)) (by have := hdH.out; omega) (by have := hlenH.out; omega)
      have CPH := Lib.hid CP
      generalize l[k] = fk at *
      obtain ⟨fb, ft, fl⟩ := fk
      unfold FV at hf
      obtain ⟨A2, cc, hcs, _⟩ := hf
      simp only [List.cons.injEq, and_true] at hcs
      obtain ⟨rfl, rfl, rfl⟩ := hcs
      generalize fl.length = fn at *
      clear CP hb
      go_wp2_with fail
      refine (CPH.out).mono ?_
      rintro ev w3 ⟨rfl, hb3⟩
      replace hb3 := Lib.hid (hbH.out.trans (hb3.mono hbH.out.size))
      go_wp2_with fail
      go_roundg (n - (k + 1))
      case measure => omega
      case rel => exact ⟨k + 1, rfl, by omega, by go_num, hb3.out⟩
    · have hkn' : k = n := by omega
      subst hkn'
      have hki : ¬ (k : Int) < (k : Int) := by omega
      have ht : l.take k = l := List.take_of_length_le (by rw [← hn.out]; exact Nat.le_refl _)
      try rw [ht]
      clear ht
      go_wp2_with fail
      go_ret
      exact ⟨rfl, hb0.out.trans (hbH.out.mono hb0.out.size)⟩
theorem rright_any (B : Nat) : ∀ (n : Nat) (f : F), SizeOf.sizeOf f < n → f.right = true → Pright B f := by
  intro n
  induction n with
  | zero => intro f h; exact absurd h (by omega)
  | succ n ih =>
    rintro ⟨b, x, l⟩ hsz hr
    cases b with
    | true =>
      unfold F.right at hr
      simp only [Bool.and_eq_true] at hr
      have hx : x = [] := by simpa using hr.1
      subst hx
      refine rright_list B l (fun k hk => ih _ ?_ (rights_get hr.2 k hk))
      have := get_size k hk
      have h2 : SizeOf.sizeOf (F.mk true [] l) = 1 + SizeOf.sizeOf true + SizeOf.sizeOf ([] : List UInt8) + SizeOf.sizeOf l := by rw [F.mk.sizeOf_spec]
      omega
    | false =>
      unfold F.right at hr
      have hl0 : l = [] := by simpa using hr
      subst hl0
      exact rright_text B x
def PDepth (B : Nat) (f : F) : Prop := ∀ (c0 c1 c2 : Value) (w : World), FV B w f [c0, c1, c2] → B ≤ w.heap.size → f.depth ≤ 8 → f.bytes.length ≤ 65536 →
  Calls Tryz.prog 48 #[.agg #[c0, c1, c2]] w fun ev w' => ev = .returned (.int .i64 (f.depth : Nat)) ∧ Below w.heap.size w w'
set_option maxRecDepth 100000 in
set_option maxHeartbeats 4000000 in
theorem rDepth_text (B : Nat) (t : List UInt8) : PDepth B (.mk false t []) := by
  intro c0 c1 c2 w hf hB hd hlen
  unfold FV at hf
  obtain ⟨A, c, hcs, hc, hll, hfs⟩ := hf
  simp only [List.cons.injEq, and_true] at hcs
  obtain ⟨rfl, rfl, rfl⟩ := hcs
  rw [show ([] : List F).length = 0 from rfl]
  have hd0 : (F.mk false t []).depth = 0 := by rw [F.depth]
  rw [txt_bytes] at hlen
  have hll2 : (Lib.decDigits t.length ++ 58 :: t).length = (Lib.decDigits t.length).length + 1 + t.length := by simp; omega
  rw [hll2] at hlen
  obtain ⟨w0, hw0⟩ : ∃ w0, w0 = w.alloc (.cells #[.bool false, .string ⟨t.toArray⟩, .slice A 0 c] 52) := ⟨_, rfl⟩
  have hb0 : Below w.heap.size w w0 := by rw [hw0]; exact (Below.refl _ _).alloc (Nat.le_refl _) _
  have hx0 : w0.heap[w.heap.size]? = some (.cells #[.bool false, .string ⟨t.toArray⟩, .slice A 0 c] 52 (0, 0)) := by rw [hw0]; exact heap_alloc_at _ _
  obtain ⟨k0, k1, k2, _, _⟩ := blk3 hx0
  have l1 := Lat.cell k1
  have hts : (ByteArray.mk t.toArray).size = t.length := arr_size t
  replace hb0 := Lib.hid hb0
  replace hx0 := Lib.hid hx0
  replace hd0 := Lib.hid hd0
  replace hll2 := Lib.hid hll2
  clear hfs
  go_enter Tryz.func48, Tryz.ntmps48
  go_upto_region 1 with fail
  rw [← hw0]
  replace hw0 := Lib.hid hw0
  go_wp2_with fail
  go_ret
  exact ⟨by rw [hd0.out]; rfl, hb0.out⟩
set_option maxRecDepth 100000 in
set_option maxHeartbeats 4000000 in
theorem rDepth_list (B : Nat) (l : List F) (ih : ∀ (k : Nat) (h : k < l.length), PDepth B l[k]) : PDepth B (.mk true [] l) := by
  intro c0 c1 c2 w hf hB hd hlen
  unfold FV at hf
  obtain ⟨A, c, hcs, hc, hll, hfs⟩ := hf
  simp only [List.cons.injEq, and_true] at hcs
  obtain ⟨rfl, rfl, rfl⟩ := hcs
  have hd0 : (F.mk true [] l).depth = depths l + 1 := by rw [F.depth]
  have hbl : (F.mk true [] l).bytes.length = (bytess l).length + 2 := by rw [lst_bytes]; simp
  rw [hd0] at hd
  rw [hbl] at hlen
  obtain ⟨w0, hw0⟩ : ∃ w0, w0 = w.alloc (.cells #[.bool true, .string ⟨#[]⟩, .slice A l.length c] 52) := ⟨_, rfl⟩
  have hb0 : Below w.heap.size w w0 := by rw [hw0]; exact (Below.refl _ _).alloc (Nat.le_refl _) _
  have hx0 : w0.heap[w.heap.size]? = some (.cells #[.bool true, .string ⟨#[]⟩, .slice A l.length c] 52 (0, 0)) := by rw [hw0]; exact heap_alloc_at _ _
  obtain ⟨k0, k1, k2, _, _⟩ := blk3 hx0
  obtain ⟨n, hn⟩ : ∃ n, n = l.length := ⟨_, rfl⟩
  rw [← hn] at hll hc hw0 hx0 k2 ⊢
  replace hn := Lib.hid hn
  replace hb0 := Lib.hid hb0
  replace hx0 := Lib.hid hx0
  have hfsH := Lib.hid (FVs.below (hb0.out.mono hB) l A 0 hfs)
  have ihH := Lib.hid ih
  replace hd0 := Lib.hid hd0
  have hdH := Lib.hid hd
  have hlenH := Lib.hid hlen
  have hblH := Lib.hid hbl
  clear hfs ih hd hlen hbl
  go_enter Tryz.func48, Tryz.ntmps48
  go_upto_region 1 with fail
  rw [← hw0]
  replace hw0 := Lib.hid hw0
  go_wp2_with fail
  go_loopg [3, 4] n (fun g' v i W => ∃ k : Nat, g' = n - k ∧ k ≤ n ∧ i = .int .i64 k ∧ v = .int .i64 ((depths (l.take k) : Nat) : Int) ∧ Below w0.heap.size w0 W)
  case atStart => exact ⟨0, rfl, by omega, rfl, rfl, Below.refl _ _⟩
  case round =>
    obtain ⟨k, hg', hk, rfl, rfl, hb⟩ := hrel
    subst hg'
    have hx := (hb.block _ (heap_lt hx0.out)).trans hx0.out
    obtain ⟨q0, q1, q2, _, _⟩ := blk3 hx
    have hbH := Lib.hid hb
    clear hx
    by_cases hkn : k < n
    · have hki : (k : Int) < (n : Int) := by omega
      have hkl : k < l.length := by rw [← hn.out]; exact hkn
      have hfk := FVs.get (FVs.below (hb.mono (Nat.le_trans hB hb0.out.size)) l A 0 hfsH.out) k hkl
      rw [Nat.zero_add] at hfk
      obtain ⟨b, o, c0, c1, c2, rfl, hbB, h0, h1, h2, hf⟩ := hfk
      have hdl := depths_get (l := l) k hkl
      have hbl := getelem_le l k hkl
      have CP := ihH.out k hkl c0 c1 c2 wr hf (Nat.le_trans hB (Nat.le_trans hb0.out.size hb.size)) (by have := hdH.out; omega) (by have := hlenH.out; omega)
      have hstep := Lib.hid (depths_take l k hkl)
      have hle := depths_take_le l (k + 1)
      rw [hstep.out] at hle
      have hd8 := hdH.out
      generalize hdk : (l[k]).depth = dk at *
      generalize hda : depths (l.take k) = da at *
      replace hdk := Lib.hid hdk
      have CPH := Lib.hid CP
      generalize l[k] = fk at *
      obtain ⟨fb, ft, fl⟩ := fk
      unfold FV at hf
      obtain ⟨A2, cc, hcs, _⟩ := hf
      simp only [List.cons.injEq, and_true] at hcs
      obtain ⟨rfl, rfl, rfl⟩ := hcs
      generalize fl.length = fn at *
      clear CP hb
      go_wp2_with fail
      refine (CPH.out).mono ?_
      rintro ev w3 ⟨rfl, hb3⟩
      replace hb3 := Lib.hid (hbH.out.trans (hb3.mono hbH.out.size))
      by_cases hlt : (da : Int) < (dk : Int)
      · have hmx := Lib.hid (show max da dk = dk by omega)
        go_wp2_with fail
        go_roundg (n - (k + 1))
        case measure => omega
        case rel => exact ⟨k + 1, rfl, by omega, by go_num, by rw [hstep.out, hmx.out], hb3.out⟩
      · have hmx := Lib.hid (show max da dk = da by omega)
        go_wp2_with fail
        go_roundg (n - (k + 1))
        case measure => omega
        case rel => exact ⟨k + 1, rfl, by omega, by go_num, by rw [hstep.out, hmx.out], hb3.out⟩
    · have hkn' : k = n := by omega
      subst hkn'
      have hki : ¬ (k : Int) < (k : Int) := by omega
      have ht : l.take k = l := List.take_of_length_le (by rw [← hn.out]; exact Nat.le_refl _)
      try rw [ht]
      clear ht
      have hd8 := hdH.out
      have hfin := Lib.hid (show (((F.mk true [] l).depth : Nat) : Int) = (depths l : Int) + 1 by rw [hd0.out]; omega)
      generalize depths l = dl at *
      go_wp2_with fail
      go_ret
      exact ⟨by rw [hfin.out]; rfl, hb0.out.trans (hbH.out.mono hb0.out.size)⟩
theorem rDepth_any (B : Nat) : ∀ (n : Nat) (f : F), SizeOf.sizeOf f < n → f.right = true → PDepth B f := by
  intro n
  induction n with
  | zero => intro f h; exact absurd h (by omega)
  | succ n ih =>
    rintro ⟨b, x, l⟩ hsz hr
    cases b with
    | true =>
      unfold F.right at hr
      simp only [Bool.and_eq_true] at hr
      have hx : x = [] := by simpa using hr.1
      subst hx
      refine rDepth_list B l (fun k hk => ih _ ?_ (rights_get hr.2 k hk))
      have := get_size k hk
      have h2 : SizeOf.sizeOf (F.mk true [] l) = 1 + SizeOf.sizeOf true + SizeOf.sizeOf ([] : List UInt8) + SizeOf.sizeOf l := by rw [F.mk.sizeOf_spec]
      omega
    | false =>
      unfold F.right at hr
      have hl0 : l = [] := by simpa using hr
      subst hl0
      exact rDepth_text B x
def Psize (B : Nat) (f : F) : Prop := ∀ (c0 c1 c2 : Value) (w : World), FV B w f [c0, c1, c2] → B ≤ w.heap.size → f.depth ≤ 8 → f.bytes.length ≤ 65536 →
  Calls Tryz.prog 49 #[.agg #[c0, c1, c2]] w fun ev w' => ev = .returned (.int .i64 (f.bytes.length : Nat)) ∧ Below w.heap.size w w'
set_option maxRecDepth 100000 in
set_option maxHeartbeats 4000000 in
theorem rsize_text (B : Nat) (t : List UInt8) : Psize B (.mk false t []) := by
  intro c0 c1 c2 w hf hB hd hlen
  unfold FV at hf
  obtain ⟨A, c, hcs, hc, hll, hfs⟩ := hf
  simp only [List.cons.injEq, and_true] at hcs
  obtain ⟨rfl, rfl, rfl⟩ := hcs
  rw [show ([] : List F).length = 0 from rfl]
  have hd0 : (F.mk false t []).depth = 0 := by rw [F.depth]
  rw [txt_bytes] at hlen
  have hll2 : (Lib.decDigits t.length ++ 58 :: t).length = (Lib.decDigits t.length).length + 1 + t.length := by simp; omega
  rw [hll2] at hlen
  obtain ⟨w0, hw0⟩ : ∃ w0, w0 = w.alloc (.cells #[.bool false, .string ⟨t.toArray⟩, .slice A 0 c] 52) := ⟨_, rfl⟩
  have hb0 : Below w.heap.size w w0 := by rw [hw0]; exact (Below.refl _ _).alloc (Nat.le_refl _) _
  have hx0 : w0.heap[w.heap.size]? = some (.cells #[.bool false, .string ⟨t.toArray⟩, .slice A 0 c] 52 (0, 0)) := by rw [hw0]; exact heap_alloc_at _ _
  obtain ⟨k0, k1, k2, _, _⟩ := blk3 hx0
  have l1 := Lat.cell k1
  have hts : (ByteArray.mk t.toArray).size = t.length := arr_size t
  have CD := fun (y : Lat w0) => Lib.hid (digits_c (t.length : Int) (by omega) (by omega) y.val)
  rw [Lib.itoa_nonneg] at CD
  have hds := arr_size (Lib.decDigits t.length)
  have hres := Lib.hid (show ((F.mk false t []).bytes.length : Int) = ((Lib.decDigits t.length).length : Int) + 1 + (t.length : Int) by rw [txt_bytes, hll2]; omega)
  generalize Lib.decDigits t.length = dd at *
  generalize ht : ByteArray.mk t.toArray = tt at *
  generalize hdd : ByteArray.mk dd.toArray = du at *
  have htl : (tt.size : Int) = (t.length : Int) := by omega
  have hdl : (du.size : Int) = (dd.length : Int) := by omega
  generalize t.length = tn at *
  generalize dd.length = dn at *
  replace ht := Lib.hid ht
  replace hdd := Lib.hid hdd
  replace hb0 := Lib.hid hb0
  replace hx0 := Lib.hid hx0
  replace hd0 := Lib.hid hd0
  replace hll2 := Lib.hid hll2
  clear hfs
  go_enter Tryz.func49, Tryz.ntmps49
  go_upto_region 1 with fail
  rw [← hw0]
  replace hw0 := Lib.hid hw0
  go_upto_region 2 with fail
  refine wp_region_lat (by kernel_rfl) (by kernel_rfl) ?_
  repeat (go_big_quiet_step ((go_at_call 59; exact lat_of (CD _).out)))
  refine wpQuiet_nil ?_
  intro _ hw'
  obtain ⟨xl, hw''⟩ := hw'
  subst hw''
  go_wp2_with fail
  go_ret
  exact ⟨by rw [hres.out]; rfl, hb0.out.trans (xl.below.mono hb0.out.size)⟩
set_option maxRecDepth 100000 in
set_option maxHeartbeats 4000000 in
theorem rsize_list (B : Nat) (l : List F) (ih : ∀ (k : Nat) (h : k < l.length), Psize B l[k]) : Psize B (.mk true [] l) := by
  intro c0 c1 c2 w hf hB hd hlen
  unfold FV at hf
  obtain ⟨A, c, hcs, hc, hll, hfs⟩ := hf
  simp only [List.cons.injEq, and_true] at hcs
  obtain ⟨rfl, rfl, rfl⟩ := hcs
  have hd0 : (F.mk true [] l).depth = depths l + 1 := by rw [F.depth]
  have hbl : (F.mk true [] l).bytes.length = (bytess l).length + 2 := by rw [lst_bytes]; simp
  rw [hd0] at hd
  rw [hbl] at hlen
  obtain ⟨w0, hw0⟩ : ∃ w0, w0 = w.alloc (.cells #[.bool true, .string ⟨#[]⟩, .slice A l.length c] 52) := ⟨_, rfl⟩
  have hb0 : Below w.heap.size w w0 := by rw [hw0]; exact (Below.refl _ _).alloc (Nat.le_refl _) _
  have hx0 : w0.heap[w.heap.size]? = some (.cells #[.bool true, .string ⟨#[]⟩, .slice A l.length c] 52 (0, 0)) := by rw [hw0]; exact heap_alloc_at _ _
  obtain ⟨k0, k1, k2, _, _⟩ := blk3 hx0
  obtain ⟨n, hn⟩ : ∃ n, n = l.length := ⟨_, rfl⟩
  rw [← hn] at hll hc hw0 hx0 k2 ⊢
  replace hn := Lib.hid hn
  replace hb0 := Lib.hid hb0
  replace hx0 := Lib.hid hx0
  have hfsH := Lib.hid (FVs.below (hb0.out.mono hB) l A 0 hfs)
  have ihH := Lib.hid ih
  replace hd0 := Lib.hid hd0
  have hdH := Lib.hid hd
  have hlenH := Lib.hid hlen
  have hblH := Lib.hid hbl
  clear hfs ih hd hlen hbl
  go_enter Tryz.func49, Tryz.ntmps49
  go_upto_region 1 with fail
  rw [← hw0]
  replace hw0 := Lib.hid hw0
  go_wp2_with fail
  go_loopg [3, 4] n (fun g' v i W => ∃ k : Nat, g' = n - k ∧ k ≤ n ∧ i = .int .i64 k ∧ v = .int .i64 ((2 + (bytess (l.take k)).length : Nat) : Int) ∧ Below w0.heap.size w0 W)
  case atStart => exact ⟨0, rfl, by omega, rfl, rfl, Below.refl _ _⟩
  case round =>
    obtain ⟨k, hg', hk, rfl, rfl, hb⟩ := hrel
    subst hg'
    have hx := (hb.block _ (heap_lt hx0.out)).trans hx0.out
    obtain ⟨q0, q1, q2, _, _⟩ := blk3 hx
    have hbH := Lib.hid hb
    clear hx
    by_cases hkn : k < n
    · have hki : (k : Int) < (n : Int) := by omega
      have hkl : k < l.length := by rw [← hn.out]; exact hkn
      have hfk := FVs.get (FVs.below (hb.mono (Nat.le_trans hB hb0.out.size)) l A 0 hfsH.out) k hkl
      rw [Nat.zero_add] at hfk
      obtain ⟨b, o, c0, c1, c2, rfl, hbB, h0, h1, h2, hf⟩ := hfk
      have hdl := depths_get (l := l) k hkl
      have hbl := getelem_le l k hkl
      have CP := ihH.out k hkl c0 c1 c2 wr hf (Nat.le_trans hB (Nat.le_trans hb0.out.size hb.size)) (by have := hdH.out; omega) (by have := hlenH.out; omega)
      have hstep := Lib.hid (congrArg List.length (bytess_take l k hkl))
      rw [List.length_append] at hstep
      have hle := bytess_le l (k + 1)
      rw [hstep.out] at hle
      have hl6 := hlenH.out
      generalize hdk : (l[k]).bytes.length = dk at *
      generalize hda : (bytess (l.take k)).length = da at *
      replace hdk := Lib.hid hdk
      have CPH := Lib.hid CP
      generalize l[k] = fk at *
      obtain ⟨fb, ft, fl⟩ := fk
      unfold FV at hf
      obtain ⟨A2, cc, hcs, _⟩ := hf
      simp only [List.cons.injEq, and_true] at hcs
      obtain ⟨rfl, rfl, rfl⟩ := hcs
      generalize fl.length = fn at *
      clear CP hb
      go_wp2_with fail
      refine (CPH.out).mono ?_
      rintro ev w3 ⟨rfl, hb3⟩
      replace hb3 := Lib.hid (hbH.out.trans (hb3.mono hbH.out.size))
      go_wp2_with fail
      go_roundg (n - (k + 1))
      case measure => omega
      case rel => exact ⟨k + 1, rfl, by omega, by go_num, by rw [hstep.out]; go_num, hb3.out⟩
    · have hkn' : k = n := by omega
      subst hkn'
      have hki : ¬ (k : Int) < (k : Int) := by omega
      have ht : l.take k = l := List.take_of_length_le (by rw [← hn.out]; exact Nat.le_refl _)
      try rw [ht]
      clear ht
      have hl6 := hlenH.out
      have hfin := Lib.hid (show (((F.mk true [] l).bytes.length : Nat) : Int) = 2 + ((bytess l).length : Int) by rw [hblH.out]; omega)
      generalize (bytess l).length = dl at *
      go_wp2_with fail
      go_ret
      exact ⟨by rw [hfin.out]; rfl, hb0.out.trans (hbH.out.mono hb0.out.size)⟩
theorem rsize_any (B : Nat) : ∀ (n : Nat) (f : F), SizeOf.sizeOf f < n → f.right = true → Psize B f := by
  intro n
  induction n with
  | zero => intro f h; exact absurd h (by omega)
  | succ n ih =>
    rintro ⟨b, x, l⟩ hsz hr
    cases b with
    | true =>
      unfold F.right at hr
      simp only [Bool.and_eq_true] at hr
      have hx : x = [] := by simpa using hr.1
      subst hx
      refine rsize_list B l (fun k hk => ih _ ?_ (rights_get hr.2 k hk))
      have := get_size k hk
      have h2 : SizeOf.sizeOf (F.mk true [] l) = 1 + SizeOf.sizeOf true + SizeOf.sizeOf ([] : List UInt8) + SizeOf.sizeOf l := by rw [F.mk.sizeOf_spec]
      omega
    | false =>
      unfold F.right at hr
      have hl0 : l = [] := by simpa using hr
      subst hl0
      exact rsize_text B x
def Pbytes (B : Nat) (f : F) : Prop := ∀ (c0 c1 c2 : Value) (w : World), FV B w f [c0, c1, c2] → B ≤ w.heap.size → f.depth ≤ 8 → f.bytes.length ≤ 65536 →
  Calls Tryz.prog 50 #[.agg #[c0, c1, c2]] w fun ev w' => ev = .returned (.string ⟨f.bytes.toArray⟩) ∧ Below w.heap.size w w'
set_option maxRecDepth 100000 in
set_option maxHeartbeats 4000000 in
theorem rbytes_text (B : Nat) (t : List UInt8) : Pbytes B (.mk false t []) := by
  intro c0 c1 c2 w hf hB hd hlen
  unfold FV at hf
  obtain ⟨A, c, hcs, hc, hll, hfs⟩ := hf
  simp only [List.cons.injEq, and_true] at hcs
  obtain ⟨rfl, rfl, rfl⟩ := hcs
  rw [show ([] : List F).length = 0 from rfl]
  have hd0 : (F.mk false t []).depth = 0 := by rw [F.depth]
  rw [txt_bytes] at hlen
  have hll2 : (Lib.decDigits t.length ++ 58 :: t).length = (Lib.decDigits t.length).length + 1 + t.length := by simp; omega
  rw [hll2] at hlen
  obtain ⟨w0, hw0⟩ : ∃ w0, w0 = w.alloc (.cells #[.bool false, .string ⟨t.toArray⟩, .slice A 0 c] 52) := ⟨_, rfl⟩
  have hb0 : Below w.heap.size w w0 := by rw [hw0]; exact (Below.refl _ _).alloc (Nat.le_refl _) _
  have hx0 : w0.heap[w.heap.size]? = some (.cells #[.bool false, .string ⟨t.toArray⟩, .slice A 0 c] 52 (0, 0)) := by rw [hw0]; exact heap_alloc_at _ _
  obtain ⟨k0, k1, k2, _, _⟩ := blk3 hx0
  have l1 := Lat.cell k1
  have hts : (ByteArray.mk t.toArray).size = t.length := arr_size t
  have CD := fun (y : Lat w0) => Lib.hid (digits_c (t.length : Int) (by omega) (by omega) y.val)
  rw [Lib.itoa_nonneg] at CD
  have hds := arr_size (Lib.decDigits t.length)
  have hres := Lib.hid (show (ByteArray.mk (F.mk false t []).bytes.toArray) = ByteArray.mk (Lib.decDigits t.length).toArray ++ ByteArray.mk #[58] ++ ByteArray.mk t.toArray by
    rw [txt_bytes, show ByteArray.mk #[58] = ByteArray.mk [58].toArray from rfl, arr_cat, arr_cat]; simp)
  have hq1 : (9223372036854775807 < (Lib.decDigits t.length).length + 1) = False := eq_false (by omega)
  have hq2 : (9223372036854775807 < (Lib.decDigits t.length).length + 1 + t.length) = False := eq_false (by omega)
  generalize Lib.decDigits t.length = dd at *
  generalize ht : ByteArray.mk t.toArray = tt at *
  generalize hdd : ByteArray.mk dd.toArray = du at *
  have htl : (tt.size : Int) = (t.length : Int) := by omega
  have hdl : (du.size : Int) = (dd.length : Int) := by omega
  generalize t.length = tn at *
  generalize dd.length = dn at *
  replace ht := Lib.hid ht
  replace hdd := Lib.hid hdd
  replace hb0 := Lib.hid hb0
  replace hx0 := Lib.hid hx0
  replace hd0 := Lib.hid hd0
  replace hll2 := Lib.hid hll2
  clear hfs
  go_enter Tryz.func50, Tryz.ntmps50
  go_upto_region 1 with fail
  rw [← hw0]
  replace hw0 := Lib.hid hw0
  go_upto_region 2 with fail
  refine wp_region_lat (by kernel_rfl) (by kernel_rfl) ?_
  repeat (go_big_quiet_step ((go_at_call 59; exact lat_of (CD _).out)))
  refine wpQuiet_nil ?_
  intro _ hw'
  obtain ⟨xl, hw''⟩ := hw'
  subst hw''
  go_wp2_with fail
  go_ret
  exact ⟨by rw [hres.out]; rfl, hb0.out.trans (xl.below.mono hb0.out.size)⟩
set_option maxRecDepth 100000 in
set_option maxHeartbeats 4000000 in
theorem rbytes_list (B : Nat) (l : List F) (ih : ∀ (k : Nat) (h : k < l.length), Pbytes B l[k]) : Pbytes B (.mk true [] l) := by
  intro c0 c1 c2 w hf hB hd hlen
  unfold FV at hf
  obtain ⟨A, c, hcs, hc, hll, hfs⟩ := hf
  simp only [List.cons.injEq, and_true] at hcs
  obtain ⟨rfl, rfl, rfl⟩ := hcs
  have hd0 : (F.mk true [] l).depth = depths l + 1 := by rw [F.depth]
  have hbl : (F.mk true [] l).bytes.length = (bytess l).length + 2 := by rw [lst_bytes]; simp
  rw [hd0] at hd
  rw [hbl] at hlen
  obtain ⟨w0, hw0⟩ : ∃ w0, w0 = w.alloc (.cells #[.bool true, .string ⟨#[]⟩, .slice A l.length c] 52) := ⟨_, rfl⟩
  have hb0 : Below w.heap.size w w0 := by rw [hw0]; exact (Below.refl _ _).alloc (Nat.le_refl _) _
  have hx0 : w0.heap[w.heap.size]? = some (.cells #[.bool true, .string ⟨#[]⟩, .slice A l.length c] 52 (0, 0)) := by rw [hw0]; exact heap_alloc_at _ _
  obtain ⟨k0, k1, k2, _, _⟩ := blk3 hx0
  obtain ⟨n, hn⟩ : ∃ n, n = l.length := ⟨_, rfl⟩
  rw [← hn] at hll hc hw0 hx0 k2 ⊢
  replace hn := Lib.hid hn
  replace hb0 := Lib.hid hb0
  replace hx0 := Lib.hid hx0
  have hfsH := Lib.hid (FVs.below (hb0.out.mono hB) l A 0 hfs)
  have ihH := Lib.hid ih
  replace hd0 := Lib.hid hd0
  have hdH := Lib.hid hd
  have hlenH := Lib.hid hlen
  have hblH := Lib.hid hbl
  clear hfs ih hd hlen hbl
  go_enter Tryz.func50, Tryz.ntmps50
  go_upto_region 1 with fail
  rw [← hw0]
  replace hw0 := Lib.hid hw0
  go_wp2_with fail
  go_loopg [3, 4] n (fun g' v i W => ∃ k : Nat, g' = n - k ∧ k ≤ n ∧ i = .int .i64 k ∧ v = .string ⟨(40 :: bytess (l.take k)).toArray⟩ ∧ Below w0.heap.size w0 W)
  case atStart => exact ⟨0, rfl, by omega, rfl, rfl, Below.refl _ _⟩
  case round =>
    obtain ⟨k, hg', hk, rfl, rfl, hb⟩ := hrel
    subst hg'
    have hx := (hb.block _ (heap_lt hx0.out)).trans hx0.out
    obtain ⟨q0, q1, q2, _, _⟩ := blk3 hx
    have hbH := Lib.hid hb
    clear hx
    by_cases hkn : k < n
    · have hki : (k : Int) < (n : Int) := by omega
      have hkl : k < l.length := by rw [← hn.out]; exact hkn
      have hfk := FVs.get (FVs.below (hb.mono (Nat.le_trans hB hb0.out.size)) l A 0 hfsH.out) k hkl
      rw [Nat.zero_add] at hfk
      obtain ⟨b, o, c0, c1, c2, rfl, hbB, h0, h1, h2, hf⟩ := hfk
      have hdl := depths_get (l := l) k hkl
      have hbl := getelem_le l k hkl
      have CP := ihH.out k hkl c0 c1 c2 wr hf (Nat.le_trans hB (Nat.le_trans hb0.out.size hb.size)) (by have := hdH.out; omega) (by have := hlenH.out; omega)
      have hstep := Lib.hid (bytess_take l k hkl)
      have hle := bytess_le l (k + 1)
      rw [hstep.out, List.length_append] at hle
      have hl6 := hlenH.out
      have hs1 := arr_size (l[k]).bytes
      have hs2 := arr_size (40 :: bytess (l.take k))
      rw [List.length_cons] at hs2
      have hcat := Lib.hid (arr_cat (40 :: bytess (l.take k)) (l[k]).bytes)
      have hq1 : (9223372036854775807 < (ByteArray.mk (40 :: bytess (l.take k)).toArray).size + (ByteArray.mk (l[k]).bytes.toArray).size) = False := eq_false (by omega)
      generalize hx1 : ByteArray.mk (l[k]).bytes.toArray = bx at *
      generalize hx2 : ByteArray.mk (40 :: bytess (l.take k)).toArray = ba at *
      replace hx1 := Lib.hid hx1
      replace hx2 := Lib.hid hx2
      have CPH := Lib.hid CP
      generalize l[k] = fk at *
      obtain ⟨fb, ft, fl⟩ := fk
      unfold FV at hf
      obtain ⟨A2, cc, hcs, _⟩ := hf
      simp only [List.cons.injEq, and_true] at hcs
      obtain ⟨rfl, rfl, rfl⟩ := hcs
      generalize fl.length = fn at *
      clear CP hb
      go_wp2_with fail
      refine (CPH.out).mono ?_
      rintro ev w3 ⟨rfl, hb3⟩
      replace hb3 := Lib.hid (hbH.out.trans (hb3.mono hbH.out.size))
      go_wp2_with fail
      go_roundg (n - (k + 1))
      case measure => omega
      case rel => exact ⟨k + 1, rfl, by omega, by go_num, by rw [hstep.out, ← List.cons_append, ← hcat.out], hb3.out⟩
    · have hkn' : k = n := by omega
      subst hkn'
      have hki : ¬ (k : Int) < (k : Int) := by omega
      have ht : l.take k = l := List.take_of_length_le (by rw [← hn.out]; exact Nat.le_refl _)
      try rw [ht]
      clear ht
      have hl6 := hlenH.out
      have hs2 := arr_size (40 :: bytess l)
      rw [List.length_cons] at hs2
      have hcat := Lib.hid (arr_cat (40 :: bytess l) [41])
      have hq1 : (9223372036854775807 < (ByteArray.mk (40 :: bytess l).toArray).size + 1) = False := eq_false (by omega)
      generalize hx2 : ByteArray.mk (40 :: bytess l).toArray = ba at *
      replace hx2 := Lib.hid hx2
      go_wp2_with fail
      go_ret
      exact ⟨by rw [lst_bytes, ← List.cons_append, ← hcat.out]; rfl, hb0.out.trans (hbH.out.mono hb0.out.size)⟩
theorem rbytes_any (B : Nat) : ∀ (n : Nat) (f : F), SizeOf.sizeOf f < n → f.right = true → Pbytes B f := by
  intro n
  induction n with
  | zero => intro f h; exact absurd h (by omega)
  | succ n ih =>
    rintro ⟨b, x, l⟩ hsz hr
    cases b with
    | true =>
      unfold F.right at hr
      simp only [Bool.and_eq_true] at hr
      have hx : x = [] := by simpa using hr.1
      subst hx
      refine rbytes_list B l (fun k hk => ih _ ?_ (rights_get hr.2 k hk))
      have := get_size k hk
      have h2 : SizeOf.sizeOf (F.mk true [] l) = 1 + SizeOf.sizeOf true + SizeOf.sizeOf ([] : List UInt8) + SizeOf.sizeOf l := by rw [F.mk.sizeOf_spec]
      omega
    | false =>
      unfold F.right at hr
      have hl0 : l = [] := by simpa using hr
      subst hl0
      exact rbytes_text B x
end Go.Proofs.YtbefkoljcacpcaaGreatDoor.Tm
set_option linter.unusedVariables false
set_option linter.unusedSimpArgs false
namespace Go.Proofs.YtbefkoljcacpcaaGreatDoor.Wi
open Go Go.RowKit Go.Proofs.YtbefkoljcacpcaaGreatDoorW.PrintWords Go.Proofs.YtbefkoljcacpcaaGreatDoor.B Go.Proofs.YtbefkoljcacpcaaGreatDoor.Dig
def lim (k : Nat) : Int := ([7, 7, 4, 2147483647, 2147483647, 2147483647] : List Int).getD k 0
def numOk (v : List Int) (k : Nat) : Bool := decide (0 ≤ v.getD k 0) && decide (v.getD k 0 ≤ lim k)
def numsOk (v : List Int) : Bool := (List.range 6).all (numOk v)
def wright (v : List Int) (l : List ByteArray) (p : ByteArray) : Bool :=
  numsOk v && (!decide (v.getD 0 0 = v.getD 1 0) &&
    (if v.getD 2 0 = 1 then decide (p.toList = []) && namesOk l
     else if v.getD 2 0 = 2 then decide (l.length = 0) && (!decide (p.toList = []) && decide (p.size ≤ 12000))
     else if v.getD 2 0 = 3 ∨ v.getD 2 0 = 4 then decide (p.toList = []) && decide (l.length = 0) else false))
theorem row_ptr (g k : Nat) (h : k < 6) : (numRow g)[k * 2]? = some (.pointer (some ⟨g, k, none⟩)) := by
  have : k = 0 ∨ k = 1 ∨ k = 2 ∨ k = 3 ∨ k = 4 ∨ k = 5 := by omega
  rcases this with rfl | rfl | rfl | rfl | rfl | rfl <;> rfl
theorem row_lim (g k : Nat) (h : k < 6) : (numRow g)[k * 2 + 1]? = some (.int .i64 (lim k)) := by
  have : k = 0 ∨ k = 1 ∨ k = 2 ∨ k = 3 ∨ k = 4 ∨ k = 5 := by omega
  rcases this with rfl | rfl | rfl | rfl | rfl | rfl <;> rfl
theorem nums_bad {v : List Int} {k : Nat} (hk : k < 6) (h : numOk v k = false) : numsOk v = false := by
  unfold numsOk
  rw [List.all_eq_false]
  exact ⟨k, List.mem_range.2 hk, by simp [h]⟩
theorem nums_good {v : List Int} (h : ∀ j, j < 6 → numOk v j = true) : numsOk v = true := List.all_eq_true.2 (fun j hj => h j (List.mem_range.1 hj))
theorem wright_bad {v : List Int} {l : List ByteArray} {p : ByteArray} {k : Nat} (hk : k < 6) (h : numOk v k = false) : wright v l p = false := by unfold wright; rw [nums_bad hk h, Bool.false_and]
def letCells (v0 v1 v2 v3 v4 v5 : Int) (A : Option Addr) (n c : Nat) (p : ByteArray) : Array Value := #[.int .i64 v0, .int .i64 v1, .int .i64 v2, .int .i64 v3, .int .i64 v4, .int .i64 v5, .slice A n c, .string p]
theorem let_num (v0 v1 v2 v3 v4 v5 : Int) (A : Option Addr) (n c : Nat) (p : ByteArray) (k : Nat) (h : k < 6) : (letCells v0 v1 v2 v3 v4 v5 A n c p)[k]? = some (.int .i64 ([v0, v1, v2, v3, v4, v5].getD k 0)) := by
  have : k = 0 ∨ k = 1 ∨ k = 2 ∨ k = 3 ∨ k = 4 ∨ k = 5 := by omega
  rcases this with rfl | rfl | rfl | rfl | rfl | rfl <;> rfl
set_option maxRecDepth 100000 in
set_option maxHeartbeats 4000000 in
theorem right_c (v0 v1 v2 v3 v4 v5 : Int) (A : Option Addr) (c : Nat) (l : List ByteArray) (p : ByteArray) (w : World) (hC : Kd.C Kd.string w A l.length l) (hc : l.length ≤ c) (hn : l.length ≤ 1000000000000) (hs : ∀ x ∈ l, x.size ≤ 140737488351232) :
    Calls Tryz.prog 13 #[.agg (letCells v0 v1 v2 v3 v4 v5 A l.length c p)] w fun ev w' => ev = .returned (.bool (wright [v0, v1, v2, v3, v4, v5] l p)) ∧ Below w.heap.size w w' := by
  obtain ⟨w1, hw1⟩ : ∃ w1, w1 = w.alloc (.cells (letCells v0 v1 v2 v3 v4 v5 A l.length c p) 24) := ⟨_, rfl⟩
  have hb1 : Below w.heap.size w w1 := by rw [hw1]; exact (Below.refl _ _).alloc (Nat.le_refl _) _
  have hg : w1.heap[w.heap.size]? = some (.cells (letCells v0 v1 v2 v3 v4 v5 A l.length c p) 24 (0, 0)) := by rw [hw1]; exact heap_alloc_at _ _
  obtain ⟨g, hgs⟩ : ∃ g, g = w.heap.size := ⟨_, rfl⟩
  rw [← hgs] at hg hb1 ⊢
  have CN := Lib.hid (numbers_c g w1)
  have CW := Lib.hid (fun W (hb : Below g w W) => names_c A c l W (Kd.C_below hC (hgs ▸ hb)) hc hn hs)
  have hgH := Lib.hid hg
  have hb1H := Lib.hid hb1
  have hw1' := hw1
  unfold letCells at hw1' ⊢
  obtain ⟨n, hN⟩ : ∃ n, n = l.length := ⟨_, rfl⟩
  rw [← hN] at hc hn hw1' ⊢
  replace hN := Lib.hid hN
  clear hC hg hb1 hw1
  go_enter Tryz.func13, Tryz.ntmps13
  go_wp2_with fail
  rw [← hgs, ← hw1']
  replace hw1 := Lib.hid hw1'
  replace hgs := Lib.hid hgs
  clear hw1'
  refine (CN.out).mono ?_
  rintro ev w2 ⟨A2, t2, rfl, hA2, hrow, hb2⟩
  have hrowH := Lib.hid hrow
  have hb2H := Lib.hid (hb1H.out.trans (hb2.mono (Nat.le_of_lt (heap_lt hgH.out))))
  have hgg := Lib.hid ((hb2.block _ (heap_lt hgH.out)).trans hgH.out)
  clear hrow hb2
  go_wp2_with fail
  go_loopg [7] 6 (fun g' i W => ∃ k : Nat, g' = 6 - k ∧ k ≤ 6 ∧ i = .int .i64 k ∧ (∀ j, j < k → numOk [v0, v1, v2, v3, v4, v5] j = true) ∧ Below w2.heap.size w2 W)
  case atStart => exact ⟨0, rfl, by omega, rfl, fun j hj => absurd hj (by omega), Below.refl _ _⟩
  case round =>
    obtain ⟨k, hg', hk, rfl, hok, hb⟩ := hrel
    subst hg'
    have hrowr := (hb.block _ (heap_lt hrowH.out)).trans hrowH.out
    have hlet := (hb.block _ (heap_lt hgg.out)).trans hgg.out
    by_cases hk6 : k < 6
    · have hki : (k : Int) < 6 := by omega
      have hp1 : wr.cell? ⟨A2, k * 2, none⟩ = some (.pointer (some ⟨g, k, none⟩)) := by rw [cell_of hrowr]; exact row_ptr g k hk6
      have hp2 : wr.cell? ⟨A2, k * 2 + 1, none⟩ = some (.int .i64 (lim k)) := by rw [cell_of hrowr]; exact row_lim g k hk6
      have hp3 : wr.cell? ⟨g, k, none⟩ = some (.int .i64 ([v0, v1, v2, v3, v4, v5].getD k 0)) := by rw [cell_of hlet]; exact let_num _ _ _ _ _ _ _ _ _ _ k hk6
      have hnk : numOk [v0, v1, v2, v3, v4, v5] k = (decide (0 ≤ [v0, v1, v2, v3, v4, v5].getD k 0) && decide ([v0, v1, v2, v3, v4, v5].getD k 0 ≤ lim k)) := rfl
      generalize [v0, v1, v2, v3, v4, v5].getD k 0 = x at *
      obtain ⟨m, hm⟩ : ∃ m, m = lim k := ⟨_, rfl⟩
      rw [← hm] at hp2 hnk
      replace hm := Lib.hid hm
      have hltb := Lib.hid (show g < wr.heap.size from heap_lt hlet)
      have hokH := Lib.hid hok
      have hbH := Lib.hid hb
      replace hnk := Lib.hid hnk
      clear hrowr hlet hok hb
      go_wp2_with fail
      obtain ⟨W1, hW1⟩ : ∃ W1, W1 = wr.alloc (.cells #[.pointer (some ⟨g, k, none⟩), .int .i64 m] 58) := ⟨_, rfl⟩
      have hq : W1.heap[wr.heap.size]? = some (.cells #[.pointer (some ⟨g, k, none⟩), .int .i64 m] 58 (0, 0)) := by rw [hW1]; exact heap_alloc_at _ _
      have hbW := Lib.hid (show Below w2.heap.size w2 W1 by rw [hW1]; exact hbH.out.alloc hbH.out.size _)
      have hc1 : W1.cell? ⟨wr.heap.size, 0, none⟩ = some (.pointer (some ⟨g, k, none⟩)) := by rw [cell_of hq]; rfl
      have hc2 : W1.cell? ⟨wr.heap.size, 1, none⟩ = some (.int .i64 m) := by rw [cell_of hq]; rfl
      have hc3 : W1.cell? ⟨g, k, none⟩ = some (.int .i64 x) := by rw [hW1, World.cell?_of_block (w := wr) (heap_alloc_lt _ _ _ hltb.out)]; exact hp3
      rw [← hW1]
      replace hW1 := Lib.hid hW1
      obtain ⟨q, hq'⟩ : ∃ q, q = wr.heap.size := ⟨_, rfl⟩
      rw [← hq'] at hc1 hc2 ⊢
      replace hq' := Lib.hid hq'
      clear hq hp1 hp2 hp3
      by_cases hx0 : x < 0
      · have hbd := Lib.hid (wright_bad (v := [v0, v1, v2, v3, v4, v5]) (l := l) (p := p) hk6 (by rw [hnk.out, decide_eq_false (by omega), Bool.false_and]))
        go_region
        all_goals (go_wp2_with fail; go_ret; exact ⟨by rw [hbd.out]; rfl, hb2H.out.trans ((hbW.out.drew).mono (Nat.le_of_lt (heap_lt hgg.out)))⟩)
      · by_cases hxm : m < x
        · have hbd := Lib.hid (wright_bad (v := [v0, v1, v2, v3, v4, v5]) (l := l) (p := p) hk6 (by rw [hnk.out, decide_eq_false (p := x ≤ m) (by omega), Bool.and_false]))
          go_region
          all_goals (go_wp2_with fail; go_ret; exact ⟨by rw [hbd.out]; rfl, hb2H.out.trans ((hbW.out.drew).mono (Nat.le_of_lt (heap_lt hgg.out)))⟩)
        · have hgd := Lib.hid (show numOk [v0, v1, v2, v3, v4, v5] k = true by rw [hnk.out, decide_eq_true (show 0 ≤ x by omega), decide_eq_true (show x ≤ m by omega)]; rfl)
          go_region
          go_wp2_with fail
          go_roundg (6 - (k + 1))
          case measure => omega
          case rel => exact ⟨k + 1, rfl, by omega, by go_num, fun j hj => by by_cases h : j < k; exact hokH.out j h; rw [show j = k from by omega]; exact hgd.out, hbW.out.drew⟩
    · have hk6e : k = 6 := by omega
      subst hk6e
      have hki : ¬ ((6 : Nat) : Int) < 6 := by omega
      have hnums := nums_good hok
      have c0 : wr.cell? ⟨g, 0, none⟩ = some (.int .i64 v0) := by rw [cell_of hlet]; rfl
      have c1 : wr.cell? ⟨g, 1, none⟩ = some (.int .i64 v1) := by rw [cell_of hlet]; rfl
      have c2 : wr.cell? ⟨g, 2, none⟩ = some (.int .i64 v2) := by rw [cell_of hlet]; rfl
      have c6 : wr.cell? ⟨g, 6, none⟩ = some (.slice A n c) := by rw [cell_of hlet, hN.out]; rfl
      have c7 : wr.cell? ⟨g, 7, none⟩ = some (.string p) := by rw [cell_of hlet]; rfl
      have hwr : wright [v0, v1, v2, v3, v4, v5] l p = (!decide (v0 = v1) && (if v2 = 1 then decide (p.toList = []) && namesOk l
        else if v2 = 2 then decide (l.length = 0) && (!decide (p.toList = []) && decide (p.size ≤ 12000))
        else if v2 = 3 ∨ v2 = 4 then decide (p.toList = []) && decide (l.length = 0) else false)) := by unfold wright; rw [hnums, Bool.true_and]; rfl
      have CW1 := Lib.hid (CW.out wr (hb2H.out.trans (hb.mono (Nat.le_of_lt (heap_lt hgg.out)))))
      have hbH := Lib.hid (hb2H.out.trans (hb.mono (Nat.le_of_lt (heap_lt hgg.out))))
      have hgw := Lib.hid (show g ≤ wr.heap.size from Nat.le_of_lt (heap_lt hlet))
      clear hrowr hlet hok hb hnums CW CN
      rw [← hN.out] at hwr
      rw [← hN.out] at CW1
      by_cases h01 : v0 = v1
      · subst h01
        rw [decide_eq_true rfl, Bool.not_true, Bool.false_and] at hwr
        replace hwr := Lib.hid hwr
        go_wp2_with fail
        go_ret
        exact ⟨by rw [hwr.out]; rfl, hbH.out⟩
      · rw [decide_eq_false h01, Bool.not_false, Bool.true_and] at hwr
        by_cases k1 : v2 = 1
        · subst k1
          rw [if_pos rfl] at hwr
          by_cases hp : p.toList = []
          · rw [decide_eq_true hp, Bool.true_and] at hwr
            replace hwr := Lib.hid hwr
            go_wp2_with fail
            refine (CW1.out).mono ?_
            rintro ev w3 ⟨rfl, hb3⟩
            replace hb3 := Lib.hid (hbH.out.trans (hb3.mono hgw.out))
            go_wp2_with fail
            go_ret
            exact ⟨by rw [hwr.out]; rfl, hb3.out⟩
          · rw [decide_eq_false hp, Bool.false_and] at hwr
            replace hwr := Lib.hid hwr
            go_wp2_with fail
            go_ret
            exact ⟨by rw [hwr.out]; rfl, hbH.out⟩
        · rw [if_neg k1] at hwr
          by_cases k2 : v2 = 2
          · subst k2
            rw [if_pos rfl] at hwr
            by_cases hn0 : n = 0
            · rw [decide_eq_true hn0, Bool.true_and] at hwr
              by_cases hp : p.toList = []
              · rw [decide_eq_true hp, Bool.not_true, Bool.false_and] at hwr
                replace hwr := Lib.hid hwr
                go_wp2_with fail
                go_ret
                exact ⟨by rw [hwr.out]; rfl, hbH.out⟩
              · rw [decide_eq_false hp, Bool.not_false, Bool.true_and] at hwr
                rw [show decide (p.size ≤ 12000) = decide ((p.size : Int) ≤ 12000) from by rw [decide_eq_decide]; omega] at hwr
                replace hwr := Lib.hid hwr
                have hpe := Lib.hid (show p.toList.isEmpty = false by simpa using hp)
                go_wp2_with fail
                go_ret
                exact ⟨by rw [hwr.out]; show Ending.returned (.bool (!p.toList.isEmpty && decide ((p.size : Int) ≤ 12000))) = _; rw [hpe.out]; rfl, hbH.out⟩
            · rw [decide_eq_false hn0, Bool.false_and] at hwr
              have hn0' : ¬ (n : Int) = 0 := by omega
              replace hwr := Lib.hid hwr
              go_wp2_with fail
              go_ret
              exact ⟨by rw [hwr.out]; rfl, hbH.out⟩
          · rw [if_neg k2] at hwr
            by_cases k34 : v2 = 3 ∨ v2 = 4
            · rw [if_pos k34] at hwr
              by_cases hp : p.toList = []
              · rw [decide_eq_true hp, Bool.true_and] at hwr
                rw [show decide (n = 0) = decide ((n : Int) = 0) from by rw [decide_eq_decide]; omega] at hwr
                replace hwr := Lib.hid hwr
                rcases k34 with rfl | rfl
                · go_wp2_with fail
                  go_ret
                  exact ⟨by rw [hwr.out]; rfl, hbH.out⟩
                · go_wp2_with fail
                  go_ret
                  exact ⟨by rw [hwr.out]; rfl, hbH.out⟩
              · rw [decide_eq_false hp, Bool.false_and] at hwr
                replace hwr := Lib.hid hwr
                rcases k34 with rfl | rfl
                · go_wp2_with fail
                  go_ret
                  exact ⟨by rw [hwr.out]; rfl, hbH.out⟩
                · go_wp2_with fail
                  go_ret
                  exact ⟨by rw [hwr.out]; rfl, hbH.out⟩
            · rw [if_neg k34] at hwr
              have k3 : ¬ v2 = 3 := fun h => k34 (.inl h)
              have k4 : ¬ v2 = 4 := fun h => k34 (.inr h)
              replace hwr := Lib.hid hwr
              clear k34
              go_wp2_with fail
              go_ret
              exact ⟨by rw [hwr.out]; rfl, hbH.out⟩
end Go.Proofs.YtbefkoljcacpcaaGreatDoor.Wi
