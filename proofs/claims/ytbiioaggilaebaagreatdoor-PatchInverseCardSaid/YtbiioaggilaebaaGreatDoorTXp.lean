/- What LawPatchInverse lean on, part p of 29: the texts TmE, TmQ, Txt, TmQb, PaP, Row. -/
import Derived.Test.YtbiioaggilaebaaGreatDoorTX0
import Derived.Test.YtbiioaggilaebaaGreatDoorTXi
import Derived.Test.YtbiioaggilaebaaGreatDoorTXj
import Derived.Test.YtbiioaggilaebaaGreatDoorTXl
import Derived.Test.YtbiioaggilaebaaGreatDoorTXn
import Derived.Test.YtbiioaggilaebaaGreatDoorTXo
import Derived.Laws.Cover1
import Derived.Deep.AppendLies
set_option linter.all false
set_option maxRecDepth 100000
set_option maxHeartbeats 16000000
namespace Go.Proofs.YtbiioaggilaebaaGreatDoor.Tm
open Go Go.RowKit B Bld YtbiioaggilaebaaGreatDoorW.PrintWords YtbiioaggilaebaaGreatDoorW.PrintLast YtbiioaggilaebaaGreatDoorW.PrintMore
attribute [local go_sem] max2_int max_two
theorem depths_take (l : List F) (k : Nat) (h : k < l.length) : depths (l.take (k + 1)) = max (depths (l.take k)) (l[k]).depth := by
 rw [List.take_add_one, List.getElem?_eq_getElem h, Option.toList_some, depths_append, depths, depths, Nat.max_zero]
theorem depths_take_le (l : List F) (k : Nat) : depths (l.take k) <= depths l := by
 have := depths_append (a := l.take k) (b := l.drop k)
 rw [List.take_append_drop] at this
 omega
theorem getelem_le (l : List F) (k : Nat) (h : k < l.length) : (l[k]).bytes.length <= (bytess l).length := by
 have h1 := bytess_le l (k + 1)
 rw [bytess_take l k h, List.length_append] at h1
 omega
theorem arr_cat (a b : List UInt8) : (ByteArray.mk a.toArray) ++ (ByteArray.mk b.toArray) = ByteArray.mk (a ++ b).toArray := by
 apply ByteArray.ext
 rw [ByteArray.data_append]
 simp
theorem arr_size (a : List UInt8) : (ByteArray.mk a.toArray).size = a.length := by show a.toArray.size = _; simp
theorem txt_bytes (t : List UInt8) (l : List F) : (F.mk false t l).bytes = Lib.decDigits t.length ++ 58 :: t := by rw [F.bytes]
theorem lst_bytes (t : List UInt8) (l : List F) : (F.mk true t l).bytes = 40 :: (bytess l ++ [41]) := by rw [F.bytes]
def Pright (B : Nat) (f : F) : Prop := ∀ (c0 c1 c2 : Value) (w : World), FV B w f [c0, c1, c2] -> B <= w.heap.size -> f.depth <= 8 -> f.bytes.length <= 1000000 ->
 Calls Tryz.prog 83 #[.agg #[c0, c1, c2]] w fun ev w' => ev = .returned (.bool true) /\ Below w.heap.size w w'
theorem rright_text (B : Nat) (t : List UInt8) : Pright B (.mk false t []) := by
 intro c0 c1 c2 w hf hB hd hlen
 unfold FV at hf
 obtain ⟨A, c, hcs, hc, hll, hfs⟩ := hf
 simp only [List.cons.injEq, and_true] at hcs
 obtain ⟨rfl, rfl, rfl⟩ := hcs
 rw [show ([] : List F).length = 0 from rfl]
 have hd0 : (F.mk false t []).depth = 0 := by rw [F.depth]
 rw [txt_bytes] at hlen
 have hll2 : (Lib.decDigits t.length ++ 58 :: t).length = (Lib.decDigits t.length).length + 1 + t.length := by simp; omega
 rw [hll2] at hlen
 obtain ⟨w0, hw0⟩ : ∃ w0, w0 = w.alloc (.cells #[.bool false, .string ⟨t.toArray⟩, .slice A 0 c] 74) := ⟨_, rfl⟩
 have hb0 : Below w.heap.size w w0 := by rw [hw0]; exact (Below.refl _ _).alloc (Nat.le_refl _) _
 have hx0 : w0.heap[w.heap.size]? = some (.cells #[.bool false, .string ⟨t.toArray⟩, .slice A 0 c] 74 (0, 0)) := by rw [hw0]; exact heap_alloc_at _ _
 obtain ⟨k0, k1, k2, _, _⟩ := blk3 hx0
 have l1 := Lat.cell k1
 have hts : (ByteArray.mk t.toArray).size = t.length := arr_size t
 replace hb0 := lh hb0
 replace hx0 := lh hx0
 replace hd0 := lh hd0
 replace hll2 := lh hll2
 clear hfs
 go_enter Tryz.func83, Tryz.ntmps83
 go_upto_region 1 with fail
 rw [<- hw0]
 replace hw0 := lh hw0
 go_wp2_with fail
 go_ret
 exact ⟨rfl, hb0.out⟩
theorem rright_list (B : Nat) (l : List F) (ih : ∀ (k : Nat) (h : k < l.length), Pright B l[k]) : Pright B (.mk true [] l) := by
 intro c0 c1 c2 w hf hB hd hlen
 unfold FV at hf
 obtain ⟨A, c, hcs, hc, hll, hfs⟩ := hf
 simp only [List.cons.injEq, and_true] at hcs
 obtain ⟨rfl, rfl, rfl⟩ := hcs
 have hd0 : (F.mk true [] l).depth = depths l + 1 := by rw [F.depth]
 have hbl : (F.mk true [] l).bytes.length = (bytess l).length + 2 := by rw [lst_bytes]; simp
 rw [hd0] at hd
 rw [hbl] at hlen
 obtain ⟨w0, hw0⟩ : ∃ w0, w0 = w.alloc (.cells #[.bool true, .string ⟨#[]⟩, .slice A l.length c] 74) := ⟨_, rfl⟩
 have hb0 : Below w.heap.size w w0 := by rw [hw0]; exact (Below.refl _ _).alloc (Nat.le_refl _) _
 have hx0 : w0.heap[w.heap.size]? = some (.cells #[.bool true, .string ⟨#[]⟩, .slice A l.length c] 74 (0, 0)) := by rw [hw0]; exact heap_alloc_at _ _
 obtain ⟨k0, k1, k2, _, _⟩ := blk3 hx0
 obtain ⟨n, hn⟩ : ∃ n, n = l.length := ⟨_, rfl⟩
 rw [<- hn] at hll hc hw0 hx0 k2 ⊢
 replace hn := lh hn
 replace hb0 := lh hb0
 replace hx0 := lh hx0
 have hfsH := lh (FVs.below (hb0.out.mono hB) l A 0 hfs)
 have ihH := lh ih
 replace hd0 := lh hd0
 have hdH := lh hd
 have hlenH := lh hlen
 have hblH := lh hbl
 clear hfs ih hd hlen hbl
 go_enter Tryz.func83, Tryz.ntmps83
 go_upto_region 1 with fail
 rw [<- hw0]
 replace hw0 := lh hw0
 go_wp2_with fail
 go_loopg [3] n (fun g' i W => ∃ k : Nat, g' = n - k /\ k <= n /\ i = .int .i64 k /\ Below w0.heap.size w0 W)
 case atStart => exact ⟨0, rfl, by omega, rfl, Below.refl _ _⟩
 case round =>
  obtain ⟨k, hg', hk, rfl, hb⟩ := hrel
  subst hg'
  have hx := (hb.block _ (heap_lt hx0.out)).trans hx0.out
  obtain ⟨q0, q1, q2, _, _⟩ := blk3 hx
  have hbH := lh hb
  clear hx
  by_cases hkn : k < n
  . have hki : (k : Int) < (n : Int) := by omega
    have hkl : k < l.length := by rw [<- hn.out]; exact hkn
    have hfk := FVs.get (FVs.below (hb.mono (Nat.le_trans hB hb0.out.size)) l A 0 hfsH.out) k hkl
    rw [Nat.zero_add] at hfk
    obtain ⟨b, o, c0, c1, c2, rfl, hbB, h0, h1, h2, hf⟩ := hfk
    have hdl := depths_get (l := l) k hkl
    have hbl := getelem_le l k hkl
    have CP := ihH.out k hkl c0 c1 c2 wr hf (Nat.le_trans hB (Nat.le_trans hb0.out.size hb.size)) (by have := hdH.out; omega) (by have := hlenH.out; omega)
    have CPH := lh CP
    generalize l[k] = fk at *
    obtain ⟨fb, ft, fl⟩ := fk
    unfold FV at hf
    obtain ⟨A2, cc, hcs, _⟩ := hf
    simp only [List.cons.injEq, and_true] at hcs
    obtain ⟨rfl, rfl, rfl⟩ := hcs
    generalize fl.length = fn at *
    clear CP hb
    go_wp2_with fail
    refine (CPH.out).mono ?_
    rintro ev w3 ⟨rfl, hb3⟩
    replace hb3 := lh (hbH.out.trans (hb3.mono hbH.out.size))
    go_wp2_with fail
    go_roundg (n - (k + 1))
    case measure => omega
    case rel => exact ⟨k + 1, rfl, by omega, by go_num, hb3.out⟩
  . have hkn' : k = n := by omega
    subst hkn'
    have hki : ¬ (k : Int) < (k : Int) := by omega
    have ht : l.take k = l := List.take_of_length_le (by rw [<- hn.out]; exact Nat.le_refl _)
    try rw [ht]
    clear ht
    go_wp2_with fail
    go_ret
    exact ⟨rfl, hb0.out.trans (hbH.out.mono hb0.out.size)⟩
theorem rright_any (B : Nat) : ∀ (n : Nat) (f : F), SizeOf.sizeOf f < n -> f.right = true -> Pright B f := by
 intro n
 induction n with
 | zero => intro f h; exact absurd h (by omega)
 | succ n ih =>
  rintro ⟨b, x, l⟩ hsz hr
  cases b with
  | true =>
   unfold F.right at hr
   simp only [Bool.and_eq_true] at hr
   have hx : x = [] := by simpa using hr.1
   subst hx
   refine rright_list B l (fun k hk => ih _ ?_ (rights_get hr.2 k hk))
   have := get_size k hk
   have h2 : SizeOf.sizeOf (F.mk true [] l) = 1 + SizeOf.sizeOf true + SizeOf.sizeOf ([] : List UInt8) + SizeOf.sizeOf l := by rw [F.mk.sizeOf_spec]
   omega
  | false =>
   unfold F.right at hr
   have hl0 : l = [] := by simpa using hr
   subst hl0
   exact rright_text B x
def PDepth (B : Nat) (f : F) : Prop := ∀ (c0 c1 c2 : Value) (w : World), FV B w f [c0, c1, c2] -> B <= w.heap.size -> f.depth <= 8 -> f.bytes.length <= 1000000 ->
 Calls Tryz.prog 84 #[.agg #[c0, c1, c2]] w fun ev w' => ev = .returned (.int .i64 (f.depth : Nat)) /\ Below w.heap.size w w'
theorem rDepth_text (B : Nat) (t : List UInt8) : PDepth B (.mk false t []) := by
 intro c0 c1 c2 w hf hB hd hlen
 unfold FV at hf
 obtain ⟨A, c, hcs, hc, hll, hfs⟩ := hf
 simp only [List.cons.injEq, and_true] at hcs
 obtain ⟨rfl, rfl, rfl⟩ := hcs
 rw [show ([] : List F).length = 0 from rfl]
 have hd0 : (F.mk false t []).depth = 0 := by rw [F.depth]
 rw [txt_bytes] at hlen
 have hll2 : (Lib.decDigits t.length ++ 58 :: t).length = (Lib.decDigits t.length).length + 1 + t.length := by simp; omega
 rw [hll2] at hlen
 obtain ⟨w0, hw0⟩ : ∃ w0, w0 = w.alloc (.cells #[.bool false, .string ⟨t.toArray⟩, .slice A 0 c] 74) := ⟨_, rfl⟩
 have hb0 : Below w.heap.size w w0 := by rw [hw0]; exact (Below.refl _ _).alloc (Nat.le_refl _) _
 have hx0 : w0.heap[w.heap.size]? = some (.cells #[.bool false, .string ⟨t.toArray⟩, .slice A 0 c] 74 (0, 0)) := by rw [hw0]; exact heap_alloc_at _ _
 obtain ⟨k0, k1, k2, _, _⟩ := blk3 hx0
 have l1 := Lat.cell k1
 have hts : (ByteArray.mk t.toArray).size = t.length := arr_size t
 replace hb0 := lh hb0
 replace hx0 := lh hx0
 replace hd0 := lh hd0
 replace hll2 := lh hll2
 clear hfs
 go_enter Tryz.func84, Tryz.ntmps84
 go_upto_region 1 with fail
 rw [<- hw0]
 replace hw0 := lh hw0
 go_wp2_with fail
 go_ret
 exact ⟨by rw [hd0.out]; rfl, hb0.out⟩
theorem rDepth_list (B : Nat) (l : List F) (ih : ∀ (k : Nat) (h : k < l.length), PDepth B l[k]) : PDepth B (.mk true [] l) := by
 intro c0 c1 c2 w hf hB hd hlen
 unfold FV at hf
 obtain ⟨A, c, hcs, hc, hll, hfs⟩ := hf
 simp only [List.cons.injEq, and_true] at hcs
 obtain ⟨rfl, rfl, rfl⟩ := hcs
 have hd0 : (F.mk true [] l).depth = depths l + 1 := by rw [F.depth]
 have hbl : (F.mk true [] l).bytes.length = (bytess l).length + 2 := by rw [lst_bytes]; simp
 rw [hd0] at hd
 rw [hbl] at hlen
 obtain ⟨w0, hw0⟩ : ∃ w0, w0 = w.alloc (.cells #[.bool true, .string ⟨#[]⟩, .slice A l.length c] 74) := ⟨_, rfl⟩
 have hb0 : Below w.heap.size w w0 := by rw [hw0]; exact (Below.refl _ _).alloc (Nat.le_refl _) _
 have hx0 : w0.heap[w.heap.size]? = some (.cells #[.bool true, .string ⟨#[]⟩, .slice A l.length c] 74 (0, 0)) := by rw [hw0]; exact heap_alloc_at _ _
 obtain ⟨k0, k1, k2, _, _⟩ := blk3 hx0
 obtain ⟨n, hn⟩ : ∃ n, n = l.length := ⟨_, rfl⟩
 rw [<- hn] at hll hc hw0 hx0 k2 ⊢
 replace hn := lh hn
 replace hb0 := lh hb0
 replace hx0 := lh hx0
 have hfsH := lh (FVs.below (hb0.out.mono hB) l A 0 hfs)
 have ihH := lh ih
 replace hd0 := lh hd0
 have hdH := lh hd
 have hlenH := lh hlen
 have hblH := lh hbl
 clear hfs ih hd hlen hbl
 go_enter Tryz.func84, Tryz.ntmps84
 go_upto_region 1 with fail
 rw [<- hw0]
 replace hw0 := lh hw0
 go_wp2_with fail
 go_loopg [3, 4] n (fun g' v i W => ∃ k : Nat, g' = n - k /\ k <= n /\ i = .int .i64 k /\ v = .int .i64 ((depths (l.take k) : Nat) : Int) /\ Below w0.heap.size w0 W)
 case atStart => exact ⟨0, rfl, by omega, rfl, rfl, Below.refl _ _⟩
 case round =>
  obtain ⟨k, hg', hk, rfl, rfl, hb⟩ := hrel
  subst hg'
  have hx := (hb.block _ (heap_lt hx0.out)).trans hx0.out
  obtain ⟨q0, q1, q2, _, _⟩ := blk3 hx
  have hbH := lh hb
  clear hx
  by_cases hkn : k < n
  . have hki : (k : Int) < (n : Int) := by omega
    have hkl : k < l.length := by rw [<- hn.out]; exact hkn
    have hfk := FVs.get (FVs.below (hb.mono (Nat.le_trans hB hb0.out.size)) l A 0 hfsH.out) k hkl
    rw [Nat.zero_add] at hfk
    obtain ⟨b, o, c0, c1, c2, rfl, hbB, h0, h1, h2, hf⟩ := hfk
    have hdl := depths_get (l := l) k hkl
    have hbl := getelem_le l k hkl
    have CP := ihH.out k hkl c0 c1 c2 wr hf (Nat.le_trans hB (Nat.le_trans hb0.out.size hb.size)) (by have := hdH.out; omega) (by have := hlenH.out; omega)
    have hstep := lh (depths_take l k hkl)
    have hle := depths_take_le l (k + 1)
    rw [hstep.out] at hle
    have hd8 := hdH.out
    generalize hdk : (l[k]).depth = dk at *
    generalize hda : depths (l.take k) = da at *
    replace hdk := lh hdk
    have CPH := lh CP
    generalize l[k] = fk at *
    obtain ⟨fb, ft, fl⟩ := fk
    unfold FV at hf
    obtain ⟨A2, cc, hcs, _⟩ := hf
    simp only [List.cons.injEq, and_true] at hcs
    obtain ⟨rfl, rfl, rfl⟩ := hcs
    generalize fl.length = fn at *
    clear CP hb
    go_wp2_with fail
    refine (CPH.out).mono ?_
    rintro ev w3 ⟨rfl, hb3⟩
    replace hb3 := lh (hbH.out.trans (hb3.mono hbH.out.size))
    by_cases hlt : (da : Int) < (dk : Int)
    . have hmx := lh (show max da dk = dk by omega)
      go_wp2_with fail
      go_roundg (n - (k + 1))
      case measure => omega
      case rel => exact ⟨k + 1, rfl, by omega, by go_num, by rw [hstep.out, hmx.out], hb3.out⟩
    . have hmx := lh (show max da dk = da by omega)
      go_wp2_with fail
      go_roundg (n - (k + 1))
      case measure => omega
      case rel => exact ⟨k + 1, rfl, by omega, by go_num, by rw [hstep.out, hmx.out], hb3.out⟩
  . have hkn' : k = n := by omega
    subst hkn'
    have hki : ¬ (k : Int) < (k : Int) := by omega
    have ht : l.take k = l := List.take_of_length_le (by rw [<- hn.out]; exact Nat.le_refl _)
    try rw [ht]
    clear ht
    have hd8 := hdH.out
    have hfin := lh (show (((F.mk true [] l).depth : Nat) : Int) = (depths l : Int) + 1 by rw [hd0.out]; omega)
    generalize depths l = dl at *
    go_wp2_with fail
    go_ret
    exact ⟨by rw [hfin.out]; rfl, hb0.out.trans (hbH.out.mono hb0.out.size)⟩
theorem rDepth_any (B : Nat) : ∀ (n : Nat) (f : F), SizeOf.sizeOf f < n -> f.right = true -> PDepth B f := by
 intro n
 induction n with
 | zero => intro f h; exact absurd h (by omega)
 | succ n ih =>
  rintro ⟨b, x, l⟩ hsz hr
  cases b with
  | true =>
   unfold F.right at hr
   simp only [Bool.and_eq_true] at hr
   have hx : x = [] := by simpa using hr.1
   subst hx
   refine rDepth_list B l (fun k hk => ih _ ?_ (rights_get hr.2 k hk))
   have := get_size k hk
   have h2 : SizeOf.sizeOf (F.mk true [] l) = 1 + SizeOf.sizeOf true + SizeOf.sizeOf ([] : List UInt8) + SizeOf.sizeOf l := by rw [F.mk.sizeOf_spec]
   omega
  | false =>
   unfold F.right at hr
   have hl0 : l = [] := by simpa using hr
   subst hl0
   exact rDepth_text B x
def Psize (B : Nat) (f : F) : Prop := ∀ (c0 c1 c2 : Value) (w : World), FV B w f [c0, c1, c2] -> B <= w.heap.size -> f.depth <= 8 -> f.bytes.length <= 1000000 ->
 Calls Tryz.prog 85 #[.agg #[c0, c1, c2]] w fun ev w' => ev = .returned (.int .i64 (f.bytes.length : Nat)) /\ Below w.heap.size w w'
theorem rsize_text (B : Nat) (t : List UInt8) : Psize B (.mk false t []) := by
 intro c0 c1 c2 w hf hB hd hlen
 unfold FV at hf
 obtain ⟨A, c, hcs, hc, hll, hfs⟩ := hf
 simp only [List.cons.injEq, and_true] at hcs
 obtain ⟨rfl, rfl, rfl⟩ := hcs
 rw [show ([] : List F).length = 0 from rfl]
 have hd0 : (F.mk false t []).depth = 0 := by rw [F.depth]
 rw [txt_bytes] at hlen
 have hll2 : (Lib.decDigits t.length ++ 58 :: t).length = (Lib.decDigits t.length).length + 1 + t.length := by simp; omega
 rw [hll2] at hlen
 obtain ⟨w0, hw0⟩ : ∃ w0, w0 = w.alloc (.cells #[.bool false, .string ⟨t.toArray⟩, .slice A 0 c] 74) := ⟨_, rfl⟩
 have hb0 : Below w.heap.size w w0 := by rw [hw0]; exact (Below.refl _ _).alloc (Nat.le_refl _) _
 have hx0 : w0.heap[w.heap.size]? = some (.cells #[.bool false, .string ⟨t.toArray⟩, .slice A 0 c] 74 (0, 0)) := by rw [hw0]; exact heap_alloc_at _ _
 obtain ⟨k0, k1, k2, _, _⟩ := blk3 hx0
 have l1 := Lat.cell k1
 have hts : (ByteArray.mk t.toArray).size = t.length := arr_size t
 have CD := fun (y : Lat w0) => lh (digits_c (t.length : Int) (by omega) (by omega) y.val)
 rw [Lib.itoa_nonneg] at CD
 have hds := arr_size (Lib.decDigits t.length)
 have hres := lh (show ((F.mk false t []).bytes.length : Int) = ((Lib.decDigits t.length).length : Int) + 1 + (t.length : Int) by rw [txt_bytes, hll2]; omega)
 generalize Lib.decDigits t.length = dd at *
 generalize ht : ByteArray.mk t.toArray = tt at *
 generalize hdd : ByteArray.mk dd.toArray = du at *
 have htl : (tt.size : Int) = (t.length : Int) := by omega
 have hdl : (du.size : Int) = (dd.length : Int) := by omega
 generalize t.length = tn at *
 generalize dd.length = dn at *
 replace ht := lh ht
 replace hdd := lh hdd
 replace hb0 := lh hb0
 replace hx0 := lh hx0
 replace hd0 := lh hd0
 replace hll2 := lh hll2
 clear hfs
 go_enter Tryz.func85, Tryz.ntmps85
 go_upto_region 1 with fail
 rw [<- hw0]
 replace hw0 := lh hw0
 go_upto_region 2 with fail
 refine wp_region_lat (by kernel_rfl) (by kernel_rfl) ?_
 repeat (go_big_quiet_step ((go_at_call 129; exact lat_of (CD _).out)))
 refine wpQuiet_nil ?_
 intro _ hw'
 obtain ⟨xl, hw''⟩ := hw'
 subst hw''
 go_wp2_with fail
 go_ret
 exact ⟨by rw [hres.out]; rfl, hb0.out.trans (xl.below.mono hb0.out.size)⟩
theorem rsize_list (B : Nat) (l : List F) (ih : ∀ (k : Nat) (h : k < l.length), Psize B l[k]) : Psize B (.mk true [] l) := by
 intro c0 c1 c2 w hf hB hd hlen
 unfold FV at hf
 obtain ⟨A, c, hcs, hc, hll, hfs⟩ := hf
 simp only [List.cons.injEq, and_true] at hcs
 obtain ⟨rfl, rfl, rfl⟩ := hcs
 have hd0 : (F.mk true [] l).depth = depths l + 1 := by rw [F.depth]
 have hbl : (F.mk true [] l).bytes.length = (bytess l).length + 2 := by rw [lst_bytes]; simp
 rw [hd0] at hd
 rw [hbl] at hlen
 obtain ⟨w0, hw0⟩ : ∃ w0, w0 = w.alloc (.cells #[.bool true, .string ⟨#[]⟩, .slice A l.length c] 74) := ⟨_, rfl⟩
 have hb0 : Below w.heap.size w w0 := by rw [hw0]; exact (Below.refl _ _).alloc (Nat.le_refl _) _
 have hx0 : w0.heap[w.heap.size]? = some (.cells #[.bool true, .string ⟨#[]⟩, .slice A l.length c] 74 (0, 0)) := by rw [hw0]; exact heap_alloc_at _ _
 obtain ⟨k0, k1, k2, _, _⟩ := blk3 hx0
 obtain ⟨n, hn⟩ : ∃ n, n = l.length := ⟨_, rfl⟩
 rw [<- hn] at hll hc hw0 hx0 k2 ⊢
 replace hn := lh hn
 replace hb0 := lh hb0
 replace hx0 := lh hx0
 have hfsH := lh (FVs.below (hb0.out.mono hB) l A 0 hfs)
 have ihH := lh ih
 replace hd0 := lh hd0
 have hdH := lh hd
 have hlenH := lh hlen
 have hblH := lh hbl
 clear hfs ih hd hlen hbl
 go_enter Tryz.func85, Tryz.ntmps85
 go_upto_region 1 with fail
 rw [<- hw0]
 replace hw0 := lh hw0
 go_wp2_with fail
 go_loopg [3, 4] n (fun g' v i W => ∃ k : Nat, g' = n - k /\ k <= n /\ i = .int .i64 k /\ v = .int .i64 ((2 + (bytess (l.take k)).length : Nat) : Int) /\ Below w0.heap.size w0 W)
 case atStart => exact ⟨0, rfl, by omega, rfl, rfl, Below.refl _ _⟩
 case round =>
  obtain ⟨k, hg', hk, rfl, rfl, hb⟩ := hrel
  subst hg'
  have hx := (hb.block _ (heap_lt hx0.out)).trans hx0.out
  obtain ⟨q0, q1, q2, _, _⟩ := blk3 hx
  have hbH := lh hb
  clear hx
  by_cases hkn : k < n
  . have hki : (k : Int) < (n : Int) := by omega
    have hkl : k < l.length := by rw [<- hn.out]; exact hkn
    have hfk := FVs.get (FVs.below (hb.mono (Nat.le_trans hB hb0.out.size)) l A 0 hfsH.out) k hkl
    rw [Nat.zero_add] at hfk
    obtain ⟨b, o, c0, c1, c2, rfl, hbB, h0, h1, h2, hf⟩ := hfk
    have hdl := depths_get (l := l) k hkl
    have hbl := getelem_le l k hkl
    have CP := ihH.out k hkl c0 c1 c2 wr hf (Nat.le_trans hB (Nat.le_trans hb0.out.size hb.size)) (by have := hdH.out; omega) (by have := hlenH.out; omega)
    have hstep := lh (congrArg List.length (bytess_take l k hkl))
    rw [List.length_append] at hstep
    have hle := bytess_le l (k + 1)
    rw [hstep.out] at hle
    have hl6 := hlenH.out
    generalize hdk : (l[k]).bytes.length = dk at *
    generalize hda : (bytess (l.take k)).length = da at *
    replace hdk := lh hdk
    have CPH := lh CP
    generalize l[k] = fk at *
    obtain ⟨fb, ft, fl⟩ := fk
    unfold FV at hf
    obtain ⟨A2, cc, hcs, _⟩ := hf
    simp only [List.cons.injEq, and_true] at hcs
    obtain ⟨rfl, rfl, rfl⟩ := hcs
    generalize fl.length = fn at *
    clear CP hb
    go_wp2_with fail
    refine (CPH.out).mono ?_
    rintro ev w3 ⟨rfl, hb3⟩
    replace hb3 := lh (hbH.out.trans (hb3.mono hbH.out.size))
    go_wp2_with fail
    go_roundg (n - (k + 1))
    case measure => omega
    case rel => exact ⟨k + 1, rfl, by omega, by go_num, by rw [hstep.out]; go_num, hb3.out⟩
  . have hkn' : k = n := by omega
    subst hkn'
    have hki : ¬ (k : Int) < (k : Int) := by omega
    have ht : l.take k = l := List.take_of_length_le (by rw [<- hn.out]; exact Nat.le_refl _)
    try rw [ht]
    clear ht
    have hl6 := hlenH.out
    have hfin := lh (show (((F.mk true [] l).bytes.length : Nat) : Int) = 2 + ((bytess l).length : Int) by rw [hblH.out]; omega)
    generalize (bytess l).length = dl at *
    go_wp2_with fail
    go_ret
    exact ⟨by rw [hfin.out]; rfl, hb0.out.trans (hbH.out.mono hb0.out.size)⟩
theorem rsize_any (B : Nat) : ∀ (n : Nat) (f : F), SizeOf.sizeOf f < n -> f.right = true -> Psize B f := by
 intro n
 induction n with
 | zero => intro f h; exact absurd h (by omega)
 | succ n ih =>
  rintro ⟨b, x, l⟩ hsz hr
  cases b with
  | true =>
   unfold F.right at hr
   simp only [Bool.and_eq_true] at hr
   have hx : x = [] := by simpa using hr.1
   subst hx
   refine rsize_list B l (fun k hk => ih _ ?_ (rights_get hr.2 k hk))
   have := get_size k hk
   have h2 : SizeOf.sizeOf (F.mk true [] l) = 1 + SizeOf.sizeOf true + SizeOf.sizeOf ([] : List UInt8) + SizeOf.sizeOf l := by rw [F.mk.sizeOf_spec]
   omega
  | false =>
   unfold F.right at hr
   have hl0 : l = [] := by simpa using hr
   subst hl0
   exact rsize_text B x
def Pbytes (B : Nat) (f : F) : Prop := ∀ (c0 c1 c2 : Value) (w : World), FV B w f [c0, c1, c2] -> B <= w.heap.size -> f.depth <= 8 -> f.bytes.length <= 1000000 ->
 Calls Tryz.prog 86 #[.agg #[c0, c1, c2]] w fun ev w' => ev = .returned (.string ⟨f.bytes.toArray⟩) /\ Below w.heap.size w w'
theorem rbytes_text (B : Nat) (t : List UInt8) : Pbytes B (.mk false t []) := by
 intro c0 c1 c2 w hf hB hd hlen
 unfold FV at hf
 obtain ⟨A, c, hcs, hc, hll, hfs⟩ := hf
 simp only [List.cons.injEq, and_true] at hcs
 obtain ⟨rfl, rfl, rfl⟩ := hcs
 rw [show ([] : List F).length = 0 from rfl]
 have hd0 : (F.mk false t []).depth = 0 := by rw [F.depth]
 rw [txt_bytes] at hlen
 have hll2 : (Lib.decDigits t.length ++ 58 :: t).length = (Lib.decDigits t.length).length + 1 + t.length := by simp; omega
 rw [hll2] at hlen
 obtain ⟨w0, hw0⟩ : ∃ w0, w0 = w.alloc (.cells #[.bool false, .string ⟨t.toArray⟩, .slice A 0 c] 74) := ⟨_, rfl⟩
 have hb0 : Below w.heap.size w w0 := by rw [hw0]; exact (Below.refl _ _).alloc (Nat.le_refl _) _
 have hx0 : w0.heap[w.heap.size]? = some (.cells #[.bool false, .string ⟨t.toArray⟩, .slice A 0 c] 74 (0, 0)) := by rw [hw0]; exact heap_alloc_at _ _
 obtain ⟨k0, k1, k2, _, _⟩ := blk3 hx0
 have l1 := Lat.cell k1
 have hts : (ByteArray.mk t.toArray).size = t.length := arr_size t
 have CD := fun (y : Lat w0) => lh (digits_c (t.length : Int) (by omega) (by omega) y.val)
 rw [Lib.itoa_nonneg] at CD
 have hds := arr_size (Lib.decDigits t.length)
 have hres := lh (show (ByteArray.mk (F.mk false t []).bytes.toArray) = ByteArray.mk (Lib.decDigits t.length).toArray ++ ByteArray.mk #[58] ++ ByteArray.mk t.toArray by
  rw [txt_bytes, show ByteArray.mk #[58] = ByteArray.mk [58].toArray from rfl, arr_cat, arr_cat]; simp)
 have hq1 : (9223372036854775807 < (Lib.decDigits t.length).length + 1) = False := eq_false (by omega)
 have hq2 : (9223372036854775807 < (Lib.decDigits t.length).length + 1 + t.length) = False := eq_false (by omega)
 generalize Lib.decDigits t.length = dd at *
 generalize ht : ByteArray.mk t.toArray = tt at *
 generalize hdd : ByteArray.mk dd.toArray = du at *
 have htl : (tt.size : Int) = (t.length : Int) := by omega
 have hdl : (du.size : Int) = (dd.length : Int) := by omega
 generalize t.length = tn at *
 generalize dd.length = dn at *
 replace ht := lh ht
 replace hdd := lh hdd
 replace hb0 := lh hb0
 replace hx0 := lh hx0
 replace hd0 := lh hd0
 replace hll2 := lh hll2
 clear hfs
 go_enter Tryz.func86, Tryz.ntmps86
 go_upto_region 1 with fail
 rw [<- hw0]
 replace hw0 := lh hw0
 go_upto_region 2 with fail
 refine wp_region_lat (by kernel_rfl) (by kernel_rfl) ?_
 repeat (go_big_quiet_step ((go_at_call 129; exact lat_of (CD _).out)))
 refine wpQuiet_nil ?_
 intro _ hw'
 obtain ⟨xl, hw''⟩ := hw'
 subst hw''
 go_wp2_with fail
 go_ret
 exact ⟨by rw [hres.out]; rfl, hb0.out.trans (xl.below.mono hb0.out.size)⟩
theorem rbytes_list (B : Nat) (l : List F) (ih : ∀ (k : Nat) (h : k < l.length), Pbytes B l[k]) : Pbytes B (.mk true [] l) := by
 intro c0 c1 c2 w hf hB hd hlen
 unfold FV at hf
 obtain ⟨A, c, hcs, hc, hll, hfs⟩ := hf
 simp only [List.cons.injEq, and_true] at hcs
 obtain ⟨rfl, rfl, rfl⟩ := hcs
 have hd0 : (F.mk true [] l).depth = depths l + 1 := by rw [F.depth]
 have hbl : (F.mk true [] l).bytes.length = (bytess l).length + 2 := by rw [lst_bytes]; simp
 rw [hd0] at hd
 rw [hbl] at hlen
 obtain ⟨w0, hw0⟩ : ∃ w0, w0 = w.alloc (.cells #[.bool true, .string ⟨#[]⟩, .slice A l.length c] 74) := ⟨_, rfl⟩
 have hb0 : Below w.heap.size w w0 := by rw [hw0]; exact (Below.refl _ _).alloc (Nat.le_refl _) _
 have hx0 : w0.heap[w.heap.size]? = some (.cells #[.bool true, .string ⟨#[]⟩, .slice A l.length c] 74 (0, 0)) := by rw [hw0]; exact heap_alloc_at _ _
 obtain ⟨k0, k1, k2, _, _⟩ := blk3 hx0
 obtain ⟨n, hn⟩ : ∃ n, n = l.length := ⟨_, rfl⟩
 rw [<- hn] at hll hc hw0 hx0 k2 ⊢
 replace hn := lh hn
 replace hb0 := lh hb0
 replace hx0 := lh hx0
 have hfsH := lh (FVs.below (hb0.out.mono hB) l A 0 hfs)
 have ihH := lh ih
 replace hd0 := lh hd0
 have hdH := lh hd
 have hlenH := lh hlen
 have hblH := lh hbl
 clear hfs ih hd hlen hbl
 go_enter Tryz.func86, Tryz.ntmps86
 go_upto_region 1 with fail
 rw [<- hw0]
 replace hw0 := lh hw0
 go_wp2_with fail
 go_loopg [3, 4] n (fun g' v i W => ∃ k : Nat, g' = n - k /\ k <= n /\ i = .int .i64 k /\ v = .string ⟨(40 :: bytess (l.take k)).toArray⟩ /\ Below w0.heap.size w0 W)
 case atStart => exact ⟨0, rfl, by omega, rfl, rfl, Below.refl _ _⟩
 case round =>
  obtain ⟨k, hg', hk, rfl, rfl, hb⟩ := hrel
  subst hg'
  have hx := (hb.block _ (heap_lt hx0.out)).trans hx0.out
  obtain ⟨q0, q1, q2, _, _⟩ := blk3 hx
  have hbH := lh hb
  clear hx
  by_cases hkn : k < n
  . have hki : (k : Int) < (n : Int) := by omega
    have hkl : k < l.length := by rw [<- hn.out]; exact hkn
    have hfk := FVs.get (FVs.below (hb.mono (Nat.le_trans hB hb0.out.size)) l A 0 hfsH.out) k hkl
    rw [Nat.zero_add] at hfk
    obtain ⟨b, o, c0, c1, c2, rfl, hbB, h0, h1, h2, hf⟩ := hfk
    have hdl := depths_get (l := l) k hkl
    have hbl := getelem_le l k hkl
    have CP := ihH.out k hkl c0 c1 c2 wr hf (Nat.le_trans hB (Nat.le_trans hb0.out.size hb.size)) (by have := hdH.out; omega) (by have := hlenH.out; omega)
    have hstep := lh (bytess_take l k hkl)
    have hle := bytess_le l (k + 1)
    rw [hstep.out, List.length_append] at hle
    have hl6 := hlenH.out
    have hs1 := arr_size (l[k]).bytes
    have hs2 := arr_size (40 :: bytess (l.take k))
    rw [List.length_cons] at hs2
    have hcat := lh (arr_cat (40 :: bytess (l.take k)) (l[k]).bytes)
    have hq1 : (9223372036854775807 < (ByteArray.mk (40 :: bytess (l.take k)).toArray).size + (ByteArray.mk (l[k]).bytes.toArray).size) = False := eq_false (by omega)
    generalize hx1 : ByteArray.mk (l[k]).bytes.toArray = bx at *
    generalize hx2 : ByteArray.mk (40 :: bytess (l.take k)).toArray = ba at *
    replace hx1 := lh hx1
    replace hx2 := lh hx2
    have CPH := lh CP
    generalize l[k] = fk at *
    obtain ⟨fb, ft, fl⟩ := fk
    unfold FV at hf
    obtain ⟨A2, cc, hcs, _⟩ := hf
    simp only [List.cons.injEq, and_true] at hcs
    obtain ⟨rfl, rfl, rfl⟩ := hcs
    generalize fl.length = fn at *
    clear CP hb
    go_wp2_with fail
    refine (CPH.out).mono ?_
    rintro ev w3 ⟨rfl, hb3⟩
    replace hb3 := lh (hbH.out.trans (hb3.mono hbH.out.size))
    go_wp2_with fail
    go_roundg (n - (k + 1))
    case measure => omega
    case rel => exact ⟨k + 1, rfl, by omega, by go_num, by rw [hstep.out, <- List.cons_append, <- hcat.out], hb3.out⟩
  . have hkn' : k = n := by omega
    subst hkn'
    have hki : ¬ (k : Int) < (k : Int) := by omega
    have ht : l.take k = l := List.take_of_length_le (by rw [<- hn.out]; exact Nat.le_refl _)
    try rw [ht]
    clear ht
    have hl6 := hlenH.out
    have hs2 := arr_size (40 :: bytess l)
    rw [List.length_cons] at hs2
    have hcat := lh (arr_cat (40 :: bytess l) [41])
    have hq1 : (9223372036854775807 < (ByteArray.mk (40 :: bytess l).toArray).size + 1) = False := eq_false (by omega)
    generalize hx2 : ByteArray.mk (40 :: bytess l).toArray = ba at *
    replace hx2 := lh hx2
    go_wp2_with fail
    go_ret
    exact ⟨by rw [lst_bytes, <- List.cons_append, <- hcat.out]; rfl, hb0.out.trans (hbH.out.mono hb0.out.size)⟩
theorem rbytes_any (B : Nat) : ∀ (n : Nat) (f : F), SizeOf.sizeOf f < n -> f.right = true -> Pbytes B f := by
 intro n
 induction n with
 | zero => intro f h; exact absurd h (by omega)
 | succ n ih =>
  rintro ⟨b, x, l⟩ hsz hr
  cases b with
  | true =>
   unfold F.right at hr
   simp only [Bool.and_eq_true] at hr
   have hx : x = [] := by simpa using hr.1
   subst hx
   refine rbytes_list B l (fun k hk => ih _ ?_ (rights_get hr.2 k hk))
   have := get_size k hk
   have h2 : SizeOf.sizeOf (F.mk true [] l) = 1 + SizeOf.sizeOf true + SizeOf.sizeOf ([] : List UInt8) + SizeOf.sizeOf l := by rw [F.mk.sizeOf_spec]
   omega
  | false =>
   unfold F.right at hr
   have hl0 : l = [] := by simpa using hr
   subst hl0
   exact rbytes_text B x
end Go.Proofs.YtbiioaggilaebaaGreatDoor.Tm
namespace Go.Proofs.YtbiioaggilaebaaGreatDoor.Tm
open Go Go.RowKit B Bld
theorem rwrite_c (f : F) (c0 c1 c2 : Value) (w : World) (hf : FV w.heap.size w f [c0, c1, c2]) (hr : f.right = true) (hd : f.depth <= 8) (hlen : f.bytes.length <= 65536) :
 Calls Tryz.prog 48 #[.agg #[c0, c1, c2]] w fun ev w' => ev = .returned (.tuple #[.string ⟨f.bytes.toArray⟩, .int .i64 0]) /\ Below w.heap.size w w' := by
 obtain ⟨w0, hw0⟩ : ∃ w0, w0 = w.alloc (.cells #[c0, c1, c2] 74) := ⟨_, rfl⟩
 have hb0 : Below w.heap.size w w0 := by rw [hw0]; exact (Below.refl _ _).alloc (Nat.le_refl _) _
 have hx0 : w0.heap[w.heap.size]? = some (.cells #[c0, c1, c2] 74 (0, 0)) := by rw [hw0]; exact heap_alloc_at _ _
 have fvl : ∀ W, Below w0.heap.size w0 W -> FV w.heap.size W f [c0, c1, c2] := fun W h => FV.below (hb0.trans (h.mono hb0.size)) _ _ hf
 have szl : ∀ W, Below w0.heap.size w0 W -> w.heap.size <= W.heap.size := fun W h => Nat.le_trans hb0.size h.size
 have C1 := lh (fun W (h : Below w0.heap.size w0 W) => rright_any w.heap.size _ f (Nat.lt_succ_self _) hr c0 c1 c2 W (fvl W h) (szl W h) hd (by omega))
 have C2 := lh (fun W (h : Below w0.heap.size w0 W) => rDepth_any w.heap.size _ f (Nat.lt_succ_self _) hr c0 c1 c2 W (fvl W h) (szl W h) hd (by omega))
 have C3 := lh (fun W (h : Below w0.heap.size w0 W) => rsize_any w.heap.size _ f (Nat.lt_succ_self _) hr c0 c1 c2 W (fvl W h) (szl W h) hd (by omega))
 have C4 := lh (fun W (h : Below w0.heap.size w0 W) => rbytes_any w.heap.size _ f (Nat.lt_succ_self _) hr c0 c1 c2 W (fvl W h) (szl W h) hd (by omega))
 have hdi : ¬ (8 : Int) < ((f.depth : Nat) : Int) := by omega
 have hli : ¬ (65536 : Int) < ((f.bytes.length : Nat) : Int) := by omega
 generalize f.depth = dd at *
 generalize f.bytes.length = bl at *
 generalize f.bytes = fb at *
 have hx0H := lh hx0
 obtain ⟨fb0, ft, fl⟩ := f
 unfold FV at hf
 obtain ⟨A2, cc, hcs, _⟩ := hf
 simp only [List.cons.injEq, and_true] at hcs
 obtain ⟨rfl, rfl, rfl⟩ := hcs
 generalize fl.length = fn at *
 obtain ⟨k0, k1, k2, _, _⟩ := blk3 hx0
 replace hb0 := lh hb0
 clear hx0 hr hd hlen fvl szl
 go_enter Tryz.func48, Tryz.ntmps48
 go_upto_region 1 with fail
 rw [<- hw0]
 replace hw0 := lh hw0
 go_wp2_with fail
 refine (C1.out w0 (Below.refl _ _)).mono ?_
 rintro ev w1 ⟨rfl, hb1⟩
 obtain ⟨a0, a1, a2, _, _⟩ := blk3 ((hb1.block _ (heap_lt hx0H.out)).trans hx0H.out)
 have D2 := C2.out w1 hb1
 replace hb1 := lh hb1
 go_wp2_with fail
 refine D2.mono ?_
 rintro ev w2 ⟨rfl, hb2⟩
 have hb2 := hb1.out.trans (hb2.mono hb1.out.size)
 obtain ⟨b0, b1, b2, _, _⟩ := blk3 ((hb2.block _ (heap_lt hx0H.out)).trans hx0H.out)
 have D3 := C3.out w2 hb2
 replace hb2 := lh hb2
 clear D2
 go_wp2_with fail
 refine D3.mono ?_
 rintro ev w3 ⟨rfl, hb3⟩
 have hb3 := hb2.out.trans (hb3.mono hb2.out.size)
 obtain ⟨d0, d1, d2, _, _⟩ := blk3 ((hb3.block _ (heap_lt hx0H.out)).trans hx0H.out)
 have D4 := C4.out w3 hb3
 replace hb3 := lh hb3
 clear D3
 go_wp2_with fail
 refine D4.mono ?_
 rintro ev w4 ⟨rfl, hb4⟩
 have hb4 := lh (hb3.out.trans (hb4.mono hb3.out.size))
 go_wp2_with fail
 go_ret2
 exact ⟨rfl, hb0.out.trans (hb4.out.mono hb0.out.size)⟩
end Go.Proofs.YtbiioaggilaebaaGreatDoor.Tm
namespace Go.Proofs.YtbiioaggilaebaaGreatDoor.Wi
open Go Go.RowKit YtbiioaggilaebaaGreatDoorW.PrintWords B Dig Tm
theorem add_off (b o j : Nat) : (⟨b, o, none⟩ : Addr).add j = ⟨b, o + j, none⟩ := by unfold Addr.add; split <;> simp_all
theorem str_cell {w : World} {A : Option Addr} {n : Nat} {l : List ByteArray} (h : Kd.C Kd.string w A n l) (j : Nat) (hj : j < n) : ∃ b o, A = some ⟨b, o, none⟩ /\ w.cell? ⟨b, o + j, none⟩ = some (.string (l.getD j ByteArray.empty)) := by
 obtain ⟨hl, _, hc⟩ := h
 obtain ⟨ad, hA, hq⟩ := hc (by omega)
 subst hA
 clear hc
 have cell : ∀ i, i < n -> w.cell? (ad.add i) = some (.string (l.getD i ByteArray.empty)) := by
  intro i hi
  obtain ⟨c, _, hr, hcell⟩ := hq i (l.getD i ByteArray.empty) (by rw [List.getD_eq_getElem?_getD, List.getElem?_eq_getElem (by omega)]; rfl)
  have hr' : c = [.string (l.getD i ByteArray.empty)] := hr
  have := hcell 0 _ (by rw [hr']; rfl)
  rwa [Nat.add_zero, show i * Kd.sz Kd.string = i from Nat.mul_one i] at this
 have h0 := cell 0 (by omega)
 have e0 : ad.add 0 = ad := by simp [Addr.add]
 rw [e0] at h0
 have e1 : ad = ⟨ad.block, ad.off, none⟩ := by
  have := World.cell?_spot h0
  obtain ⟨b, o, s⟩ := ad
  simp only at this
  rw [this]
 refine ⟨ad.block, ad.off, by rw [<- e1], ?_⟩
 have := cell j hj
 rw [e1, add_off] at this
 exact this
theorem le_lt : ∀ a b : List UInt8, (Op.bytesLess a b || a == b) = !(Op.bytesLess b a)
 | [], [] => by simp [Op.bytesLess]
 | _ :: _, [] => by simp [Op.bytesLess]
 | [], _ :: _ => by simp [Op.bytesLess]
 | a :: x, b :: y => by
  have ih := le_lt x y
  rw [Op.bytesLess, Op.bytesLess]
  by_cases h1 : a < b
  . have h2 : ¬ b < a := by rw [UInt8.lt_iff_toNat_lt] at h1 ⊢; omega
    have h3 : ¬ b = a := by rintro rfl; rw [UInt8.lt_iff_toNat_lt] at h1; omega
    have h4 : ¬ a = b := fun e => h3 e.symm
    simp [h1, h2, h3, h4]
  . by_cases h2 : b < a
    . have h3 : ¬ b = a := by rintro rfl; rw [UInt8.lt_iff_toNat_lt] at h2; omega
      have h4 : ¬ a = b := fun e => h3 e.symm
      simp [h1, h2, h3, h4]
    . have h3 : a = b := UInt8.toNat_inj.1 (by rw [UInt8.lt_iff_toNat_lt] at h1 h2; omega)
      subst h3
      simpa [h1] using ih
def okAt (l : List ByteArray) (i : Nat) : Bool := rightL (l.getD i ByteArray.empty).data.toList && (decide (i = 0) || Op.bytesLess (l.getD (i - 1) ByteArray.empty).toList (l.getD i ByteArray.empty).toList)
theorem getD_mem' (l : List ByteArray) (k : Nat) (d : ByteArray) (h : k < l.length) : l.getD k d ∈ l := by
 rw [List.getD_eq_getElem?_getD, List.getElem?_eq_getElem h]
 exact List.getElem_mem h
def lhave (l : List ByteArray) : List F := l.map fun s => txt s.data.toList
theorem txt_right (t : List UInt8) : (txt t).right = true := by unfold txt F.right; rfl
theorem txt_depth (t : List UInt8) : (txt t).depth = 0 := by unfold txt F.depth; rfl
theorem lst_right {l : List F} (h : rights l = true) : (lst l).right = true := by unfold lst F.right; rw [h]; rfl
theorem lst_depth (l : List F) : (lst l).depth = depths l + 1 := by unfold lst; rw [F.depth]
theorem rights_map {α : Type} (g : α -> List UInt8) : ∀ l : List α, rights (l.map fun x => txt (g x)) = true
 | [] => by unfold rights; rfl
 | a :: l => by rw [List.map_cons, rights, txt_right, rights_map g l]; rfl
theorem depths_map {α : Type} (g : α -> List UInt8) : ∀ l : List α, depths (l.map fun x => txt (g x)) = 0
 | [] => by unfold depths; rfl
 | a :: l => by rw [List.map_cons, depths, txt_depth, depths_map g l]; rfl
theorem txt_len (t : List UInt8) (h : t.length <= 65536) : (txt t).bytes.length <= t.length + 6 := by
 unfold txt
 rw [txt_bytes, List.length_append, List.length_cons]
 have := dec_len5 t.length h
 omega
theorem bytess_map_len {α : Type} (g : α -> List UInt8) (c : Nat) (hc : c <= 65536) : ∀ l : List α, (∀ x ∈ l, (g x).length <= c) -> (bytess (l.map fun x => txt (g x))).length <= l.length * (c + 6)
 | [], _ => by unfold bytess; simp
 | a :: l, h => by
  rw [List.map_cons, bytess, List.length_append, List.length_cons, Nat.add_mul, Nat.one_mul]
  have h1 := txt_len (g a) (Nat.le_trans (h a (by simp)) hc)
  have h2 := h a (by simp)
  have h3 := bytess_map_len g c hc l (fun x hx => h x (by simp [hx]))
  omega
theorem lst_len (l : List F) : (lst l).bytes.length = (bytess l).length + 2 := by unfold lst; rw [lst_bytes]; simp
theorem below_alloc (W : World) (o : Obj) : Below W.heap.size W (W.alloc o) := (Below.refl _ _).alloc (Nat.le_refl _) _
end Go.Proofs.YtbiioaggilaebaaGreatDoor.Wi
namespace Go.Proofs.YtbiioaggilaebaaGreatDoor.Tm
open Go Go.RowKit B
theorem rwrite_big (f : F) (c0 c1 c2 : Value) (w : World) (hf : FV w.heap.size w f [c0, c1, c2]) (hr : f.right = true) (hd : f.depth <= 8) (hlen : 65536 < f.bytes.length) (hmax : f.bytes.length <= 1000000) :
 Calls Tryz.prog 48 #[.agg #[c0, c1, c2]] w fun ev w' => ev = .returned (.tuple #[.string ⟨#[]⟩, .int .i64 2]) /\ Below w.heap.size w w' := by
 obtain ⟨w0, hw0⟩ : ∃ w0, w0 = w.alloc (.cells #[c0, c1, c2] 74) := ⟨_, rfl⟩
 have hb0 : Below w.heap.size w w0 := by rw [hw0]; exact (Below.refl _ _).alloc (Nat.le_refl _) _
 have hx0 : w0.heap[w.heap.size]? = some (.cells #[c0, c1, c2] 74 (0, 0)) := by rw [hw0]; exact heap_alloc_at _ _
 have fvl : ∀ W, Below w0.heap.size w0 W -> FV w.heap.size W f [c0, c1, c2] := fun W h => FV.below (hb0.trans (h.mono hb0.size)) _ _ hf
 have szl : ∀ W, Below w0.heap.size w0 W -> w.heap.size <= W.heap.size := fun W h => Nat.le_trans hb0.size h.size
 have C1 := lh (fun W (h : Below w0.heap.size w0 W) => rright_any w.heap.size _ f (Nat.lt_succ_self _) hr c0 c1 c2 W (fvl W h) (szl W h) hd (by omega))
 have C2 := lh (fun W (h : Below w0.heap.size w0 W) => rDepth_any w.heap.size _ f (Nat.lt_succ_self _) hr c0 c1 c2 W (fvl W h) (szl W h) hd (by omega))
 have C3 := lh (fun W (h : Below w0.heap.size w0 W) => rsize_any w.heap.size _ f (Nat.lt_succ_self _) hr c0 c1 c2 W (fvl W h) (szl W h) hd (by omega))
 have hdi : ¬ (8 : Int) < ((f.depth : Nat) : Int) := by omega
 have hli : (65536 : Int) < ((f.bytes.length : Nat) : Int) := by omega
 generalize f.depth = dd at *
 generalize f.bytes.length = bl at *
 generalize f.bytes = fb at *
 have hx0H := lh hx0
 obtain ⟨fb0, ft, fl⟩ := f
 unfold FV at hf
 obtain ⟨A2, cc, hcs, _⟩ := hf
 simp only [List.cons.injEq, and_true] at hcs
 obtain ⟨rfl, rfl, rfl⟩ := hcs
 generalize fl.length = fn at *
 obtain ⟨k0, k1, k2, _, _⟩ := blk3 hx0
 replace hb0 := lh hb0
 clear hx0 hr hd hlen hmax fvl szl
 go_enter Tryz.func48, Tryz.ntmps48
 go_upto_region 1 with fail
 rw [<- hw0]
 replace hw0 := lh hw0
 go_wp2_with fail
 refine (C1.out w0 (Below.refl _ _)).mono ?_
 rintro ev w1 ⟨rfl, hb1⟩
 obtain ⟨a0, a1, a2, _, _⟩ := blk3 ((hb1.block _ (heap_lt hx0H.out)).trans hx0H.out)
 have D2 := C2.out w1 hb1
 replace hb1 := lh hb1
 go_wp2_with fail
 refine D2.mono ?_
 rintro ev w2 ⟨rfl, hb2⟩
 have hb2 := hb1.out.trans (hb2.mono hb1.out.size)
 obtain ⟨b0, b1, b2, _, _⟩ := blk3 ((hb2.block _ (heap_lt hx0H.out)).trans hx0H.out)
 have D3 := C3.out w2 hb2
 replace hb2 := lh hb2
 clear D2
 go_wp2_with fail
 refine D3.mono ?_
 rintro ev w3 ⟨rfl, hb3⟩
 have hb3 := hb2.out.trans (hb3.mono hb2.out.size)
 replace hb3 := lh hb3
 clear D3
 go_wp2_with fail
 go_ret2
 exact ⟨rfl, hb0.out.trans (hb3.out.mono hb0.out.size)⟩
end Go.Proofs.YtbiioaggilaebaaGreatDoor.Tm
namespace Go.Proofs.YtbiioaggilaebaaGreatDoor.Pa
open Go Go.RowKit B Tm Wi
open Lin (mrk)
structure Op where
 k : Int
 a : Int
 m : Int
 b : Int
 n : Int
 ls : List ByteArray
def refOk (own deps t n : Int) : Bool :=
 if t = -1 then decide (n = 0 \/ n = 1) else if t = -2 then decide (0 <= n /\ n < own) else decide (0 <= t /\ t < deps /\ 0 <= n /\ n < 300)
def lineOk (s : ByteArray) : Bool := decide (s.size <= 500) && (!s.data.toList.contains 10 && !mrk s.data.toList)
def twoOk (own deps : Int) (o : Op) : Bool :=
 refOk own deps o.a o.m && (refOk own deps o.b o.n && decide (¬ (o.a = o.b /\ o.m = o.n) /\ ¬ (o.a = -1 /\ o.m = 1) /\ ¬ (o.b = -1 /\ o.n = 0)))
def opOk (own deps : Int) (o : Op) : Bool :=
 if o.k = 1 then twoOk own deps o && (o.ls.all lineOk && decide (0 < o.ls.length))
 else if o.k = 2 \/ o.k = 3 then twoOk own deps o && decide (o.ls.length = 0)
 else if o.k = 4 \/ o.k = 5 then refOk own deps o.a o.m && decide (0 <= o.a /\ o.b = 0 /\ o.n = 0 /\ o.ls.length = 0)
 else false
def mk1 (o : Op) : Nat := if o.k = 1 then o.ls.length else 0
def made (l : List Op) : Nat := (l.map mk1).sum
def opsOk (deps : Int) (l : List Op) : Bool := (List.range l.length).all fun i => match l[i]? with
 | some o => opOk (made (l.take i)) deps o
 | none => true
def depsOk (l : List ByteArray) : Bool := (List.range l.length).all (okAt l)
def pfits (note : ByteArray) (deps : List ByteArray) (ops : List Op) : Bool :=
 decide (note.size <= 100 /\ deps.length <= 64 /\ ops.length <= 400) && (depsOk deps && (opsOk deps.length ops && decide (made ops <= 300)))
def nform (x : Int) : F := txt (Lib.itoa x)
def rform (t n : Int) : F := lst [nform t, nform n]
def tform (l : List ByteArray) : F := lst (lhave l)
def oform (o : Op) : F := lst [nform o.k, rform o.a o.m, rform o.b o.n, tform o.ls]
def tambourB : ByteArray := ⟨#[116, 97, 109, 98, 111, 117, 114]⟩
def pform (note : ByteArray) (deps : List ByteArray) (ops : List Op) : F := lst [txt tambourB.data.toList, txt note.data.toList, tform deps, lst (ops.map oform)]
def pbytes (note : ByteArray) (deps : List ByteArray) (ops : List Op) : List UInt8 := (pform note deps ops).bytes
def pright (note : ByteArray) (deps : List ByteArray) (ops : List Op) : Bool := pfits note deps ops && decide ((pbytes note deps ops).length <= 65536)
theorem nform_right (x : Int) : (nform x).right = true := txt_right _
theorem nform_depth (x : Int) : (nform x).depth = 0 := txt_depth _
theorem rights_cons {f : F} {l : List F} (h : f.right = true) (k : rights l = true) : rights (f :: l) = true := by rw [rights, h, k]; rfl
theorem rights_nil : rights [] = true := by rw [rights]
theorem rform_right (t n : Int) : (rform t n).right = true := lst_right (rights_cons (nform_right _) (rights_cons (nform_right _) rights_nil))
theorem rform_depth (t n : Int) : (rform t n).depth = 1 := by unfold rform; rw [lst_depth, depths, depths, depths, nform_depth, nform_depth]; rfl
theorem tform_right (l : List ByteArray) : (tform l).right = true := lst_right (by unfold lhave; exact rights_map _ _)
theorem tform_depth (l : List ByteArray) : (tform l).depth = 1 := by unfold tform lhave; rw [lst_depth, depths_map]
theorem oform_right (o : Op) : (oform o).right = true := lst_right (rights_cons (nform_right _) (rights_cons (rform_right _ _) (rights_cons (rform_right _ _) (rights_cons (tform_right _) rights_nil))))
theorem oform_depth (o : Op) : (oform o).depth = 2 := by unfold oform; rw [lst_depth, depths, depths, depths, depths, depths, nform_depth, rform_depth, rform_depth, tform_depth]; rfl
theorem ops_right : ∀ l : List Op, rights (l.map oform) = true
 | [] => rights_nil
 | o :: l => rights_cons (oform_right o) (ops_right l)
theorem ops_depths : ∀ l : List Op, depths (l.map oform) <= 2
 | [] => by rw [List.map_nil, depths]; omega
 | o :: l => by rw [List.map_cons, depths, oform_depth]; have := ops_depths l; omega
theorem pform_right (note : ByteArray) (deps : List ByteArray) (ops : List Op) : (pform note deps ops).right = true :=
 lst_right (rights_cons (txt_right _) (rights_cons (txt_right _) (rights_cons (tform_right _) (rights_cons (lst_right (ops_right _)) rights_nil))))
theorem pform_depth (note : ByteArray) (deps : List ByteArray) (ops : List Op) : (pform note deps ops).depth <= 4 := by
 unfold pform
 rw [lst_depth, depths, depths, depths, depths, depths, txt_depth, txt_depth, tform_depth, lst_depth]
 have := ops_depths ops
 omega
theorem refOk_b {own deps t n : Int} (h : refOk own deps t n = true) (ho : own <= 300) (hd : deps <= 64) : (-2 <= t /\ t <= 64) /\ 0 <= n /\ n <= 300 := by
 unfold refOk at h
 split at h
 . simp only [decide_eq_true_eq] at h; omega
 . split at h <;> simp only [decide_eq_true_eq] at h <;> omega
theorem opOk_b {own deps : Int} {o : Op} (h : opOk own deps o = true) (ho : own <= 300) (hd : deps <= 64) :
 (1 <= o.k /\ o.k <= 5) /\ ((-2 <= o.a /\ o.a <= 64) /\ 0 <= o.m /\ o.m <= 300) /\ ((-2 <= o.b /\ o.b <= 64) /\ 0 <= o.n /\ o.n <= 300) /\ (∀ x ∈ o.ls, x.size <= 500) /\ o.ls.length = mk1 o := by
 unfold opOk at h
 unfold mk1
 split at h
 . next hk =>
   simp only [Bool.and_eq_true] at h
   unfold twoOk at h
   simp only [Bool.and_eq_true] at h
   refine ⟨by omega, refOk_b h.1.1 ho hd, refOk_b h.1.2.1 ho hd, fun x hx => ?_, by rw [if_pos hk]⟩
   have := List.all_eq_true.1 h.2.1 x hx
   unfold lineOk at this
   simp only [Bool.and_eq_true, decide_eq_true_eq] at this
   exact this.1
 . next hk =>
   split at h
   . unfold twoOk at h
     simp only [Bool.and_eq_true, decide_eq_true_eq] at h
     have hn := List.eq_nil_of_length_eq_zero h.2
     refine ⟨by omega, refOk_b h.1.1 ho hd, refOk_b h.1.2.1 ho hd, fun x hx => (by rw [hn] at hx; cases hx), by rw [if_neg hk]; exact h.2⟩
   . split at h
     . simp only [Bool.and_eq_true, decide_eq_true_eq] at h
       have hn := List.eq_nil_of_length_eq_zero h.2.2.2.2
       refine ⟨by omega, refOk_b h.1 ho hd, by omega, fun x hx => (by rw [hn] at hx; cases hx), by rw [if_neg hk]; exact h.2.2.2.2⟩
     . cases h
theorem made_nil : made [] = 0 := rfl
theorem made_cons (o : Op) (l : List Op) : made (o :: l) = mk1 o + made l := by unfold made; rw [List.map_cons, List.sum_cons]
theorem made_append (a b : List Op) : made (a ++ b) = made a + made b := by unfold made; rw [List.map_append, List.sum_append]
theorem made_take (l : List Op) (k : Nat) : made (l.take k) <= made l := by
 have := made_append (l.take k) (l.drop k)
 rw [List.take_append_drop] at this
 omega
theorem pfits_op {note : ByteArray} {deps : List ByteArray} {ops : List Op} (h : pfits note deps ops = true) (o : Op) (ho : o ∈ ops) :
 (1 <= o.k /\ o.k <= 5) /\ ((-2 <= o.a /\ o.a <= 64) /\ 0 <= o.m /\ o.m <= 300) /\ ((-2 <= o.b /\ o.b <= 64) /\ 0 <= o.n /\ o.n <= 300) /\ (∀ x ∈ o.ls, x.size <= 500) /\ o.ls.length = mk1 o := by
 unfold pfits at h
 simp only [Bool.and_eq_true, decide_eq_true_eq] at h
 obtain ⟨i, hi, rfl⟩ := List.getElem_of_mem ho
 have h1 := List.all_eq_true.1 h.2.2.1 i (List.mem_range.2 hi)
 simp only [List.getElem?_eq_getElem hi] at h1
 have := made_take ops i
 exact opOk_b h1 (by omega) (by omega)
theorem nform_len (x : Int) (h0 : -1000000 <= x) (h1 : x <= 1000000) : (nform x).bytes.length <= 27 := by
 have h2 := Lib.itoa_length_le x (by omega) (by omega)
 have := txt_len (Lib.itoa x) (by omega)
 unfold nform
 omega
theorem rform_len (t n : Int) (h0 : -1000000 <= t) (h1 : t <= 1000000) (h2 : -1000000 <= n) (h3 : n <= 1000000) : (rform t n).bytes.length <= 56 := by
 have := nform_len t h0 h1
 have := nform_len n h2 h3
 unfold rform
 rw [lst_len, bytess, bytess, bytess, List.length_append, List.length_append, List.length_nil]
 omega
theorem tform_len (c : Nat) (hc : c <= 65536) (l : List ByteArray) (h : ∀ x ∈ l, x.size <= c) : (tform l).bytes.length <= l.length * (c + 6) + 2 := by
 have := bytess_map_len (fun s : ByteArray => s.data.toList) c hc l (fun s hs => by rw [toList_size]; exact h s hs)
 unfold tform lhave
 rw [lst_len]
 omega
theorem oform_len (o : Op) (hk : 1 <= o.k /\ o.k <= 5) (ha : (-2 <= o.a /\ o.a <= 64) /\ 0 <= o.m /\ o.m <= 300) (hb : (-2 <= o.b /\ o.b <= 64) /\ 0 <= o.n /\ o.n <= 300) (hl : ∀ x ∈ o.ls, x.size <= 500) : (oform o).bytes.length <= 150 + o.ls.length * 506 := by
 have h1 := nform_len o.k (by omega) (by omega)
 have h2 := rform_len o.a o.m (by omega) (by omega) (by omega) (by omega)
 have h3 := rform_len o.b o.n (by omega) (by omega) (by omega) (by omega)
 have h4 := tform_len 500 (by omega) o.ls hl
 unfold oform
 rw [lst_len, bytess, bytess, bytess, bytess, bytess, List.length_append, List.length_append, List.length_append, List.length_append, List.length_nil]
 omega
theorem ops_len : ∀ l : List Op, (∀ o ∈ l, (oform o).bytes.length <= 150 + o.ls.length * 506 /\ o.ls.length = mk1 o) -> (bytess (l.map oform)).length <= l.length * 150 + made l * 506
 | [], _ => by rw [List.map_nil, bytess]; simp
 | o :: l, h => by
  rw [List.map_cons, bytess, List.length_append, List.length_cons, made_cons]
  have h1 := h o (by simp)
  have h2 := ops_len l (fun x hx => h x (by simp [hx]))
  rw [h1.2] at h1
  have h3 := h1.1
  rw [Nat.add_mul, Nat.add_mul]
  omega
theorem pbytes_len {note : ByteArray} {deps : List ByteArray} {ops : List Op} (h : pfits note deps ops = true) : (pbytes note deps ops).length <= 300000 := by
 have hop := fun o ho => pfits_op h o ho
 unfold pfits at h
 simp only [Bool.and_eq_true, decide_eq_true_eq] at h
 have h1 := txt_len tambourB.data.toList (by show (7 : Nat) <= 65536; omega)
 have h2 := txt_len note.data.toList (by rw [toList_size]; omega)
 have h3 := tform_len 64 (by omega) deps (fun x hx => by
  obtain ⟨i, hi, rfl⟩ := List.getElem_of_mem hx
  have := List.all_eq_true.1 h.2.1 i (List.mem_range.2 hi)
  unfold okAt Dig.rightL at this
  simp only [Bool.and_eq_true, decide_eq_true_eq] at this
  rw [List.getD_eq_getElem?_getD, List.getElem?_eq_getElem hi] at this
  have := this.1.1
  rw [toList_size] at this
  exact Nat.le_of_eq this)
 have h4 := ops_len ops (fun o ho => by
  obtain ⟨k1, k2, k3, k4, k5⟩ := hop o ho
  exact ⟨oform_len o k1 k2 k3 k4, k5⟩)
 have h5 : tambourB.data.toList.length = 7 := rfl
 rw [toList_size] at h2
 unfold pbytes pform
 rw [lst_len, bytess, bytess, bytess, bytess, bytess, List.length_append, List.length_append, List.length_append, List.length_append, List.length_nil, lst_len]
 omega
end Go.Proofs.YtbiioaggilaebaaGreatDoor.Pa
namespace Go.Proofs.YtbiioaggilaebaaGreatDoor.Tm
open Go Go.RowKit YtbiioaggilaebaaGreatDoorW.PrintWords B
def F.text : F -> List UInt8
 | .mk _ t _ => t
def F.list : F -> Bool
 | .mk b _ _ => b
def F.items : F -> List F
 | .mk _ _ l => l
theorem FKs.get {ok : Nat -> Prop} {w : World} {A : Option Addr} : ∀ (l : List F) (i : Nat), FKs ok w A i l -> ∀ k f, l[k]? = some f -> ∃ b o c0 c1 c2, A = some ⟨b, o, none⟩ /\ ok b /\ w.cell? ⟨b, o + (i + k) * 3, none⟩ = some c0 /\ w.cell? ⟨b, o + (i + k) * 3 + 1, none⟩ = some c1 /\ w.cell? ⟨b, o + (i + k) * 3 + 2, none⟩ = some c2 /\ FK ok w f [c0, c1, c2]
 | [], _, _, k, f, hk => by cases k <;> cases hk
 | g :: l, i, h, k, f, hk => by
  unfold FKs at h
  cases k with
  | zero =>
   cases hk
   exact h.1
  | succ k =>
   obtain ⟨b, o, c0, c1, c2, r⟩ := FKs.get l (i + 1) h.2 k f hk
   rw [show i + 1 + k = i + (k + 1) from by omega] at r
   exact ⟨b, o, c0, c1, c2, r⟩
theorem FKs.base {ok : Nat -> Prop} {w : World} {A : Option Addr} {l : List F} (h : FKs ok w A 0 l) (h0 : 0 < l.length) : ∃ b o, A = some ⟨b, o, none⟩ /\ ok b := by
 obtain ⟨b, o, _, _, _, h1, h2, _⟩ := FKs.get l 0 h 0 _ (List.getElem?_eq_getElem h0)
 exact ⟨b, o, h1, h2⟩
theorem smalls_get : ∀ {l : List F} {k : Nat} {f : F}, smalls l = true -> l[k]? = some f -> f.small = true
 | [], k, f, _, hk => by cases k <;> cases hk
 | g :: l, k, f, h, hk => by
  rw [smalls, Bool.and_eq_true] at h
  cases k with
  | zero => cases hk; exact h.1
  | succ k => exact smalls_get h.2 hk
def StrRow (base : Nat) (W : World) (v : Value) (l : List ByteArray) : Prop := W.ownsRow base 9 1 v l.length (l.map fun s => .string s)
theorem StrRow.nil (base : Nat) (W : World) : StrRow base W (.slice none 0 0) [] := ⟨rfl, .inl ⟨rfl, rfl⟩⟩
theorem StrRow.lt {base : Nat} {W : World} {v : Value} {l : List ByteArray} (h : StrRow base W v l) (k : Nat) (hk : v.ownBlock = some k) : base <= k /\ k < W.heap.size := by
 have := World.ownsRow.lt h k hk
 exact ⟨this.1, this.2⟩
theorem StrRow.keep {base : Nat} {W W' : World} {v : Value} {l : List ByteArray} (h : StrRow base W v l) (hk : ∀ b, base <= b -> b < W.heap.size -> W'.heap[b]? = W.heap[b]?) : StrRow base W' v l := by
 have hlt := h.lt
 obtain ⟨k1, k2⟩ := h
 refine ⟨k1, ?_⟩
 rcases k2 with k2 | ⟨g, cap, cur, e1, e2, e3, e4⟩
 . exact .inl k2
 . have := hlt g (by rw [e1]; rfl)
   exact .inr ⟨g, cap, cur, e1, e2, (hk g e2 this.2).trans e3, e4⟩
theorem StrRow.read {base : Nat} {W : World} {v : Value} {l : List ByteArray} (h : StrRow base W v l) : ∃ A c, v = .slice A l.length c /\ l.length <= c /\ Kd.C Kd.string W A l.length l /\ ∀ a, A = some a -> base <= a.block := by
 obtain ⟨k1, k2⟩ := h
 rcases k2 with ⟨rfl, h0⟩ | ⟨g, cap, cur, rfl, e2, e3, e4, e5, e6, e7⟩
 . obtain rfl : l = [] := List.eq_nil_of_length_eq_zero h0
   refine ⟨none, 0, rfl, Nat.le_refl _, ⟨rfl, by simp, fun h => absurd h (by simp)⟩, fun a ha => (by cases ha)⟩
 . refine ⟨some ⟨g, 0, none⟩, cap, rfl, e4, ⟨rfl, by simp only [maxLen] at e5; omega, fun _ => ⟨_, rfl, fun j p hj => ⟨[.string p], rfl, rfl, fun i u hu => ?_⟩⟩⟩, fun a ha => by cases ha; exact e2⟩
   have hjl := (List.getElem?_eq_some_iff.1 hj).1
   cases i with
   | succ i => cases i <;> cases hu
   | zero =>
    cases hu
    show W.cell? (Addr.add ⟨g, 0, none⟩ (j * 1 + 0)) = _
    rw [Wi.add_off, Nat.mul_one, Nat.add_zero, Nat.zero_add, cell_of e3]
    have : (l.map fun s => Value.string s)[j]? = some (.string p) := by rw [List.getElem?_map, hj]; rfl
    rw [<- e7, List.getElem?_take, if_pos (by omega), Array.getElem?_toList] at this
    exact this
theorem add_block (a : Addr) (k : Nat) : (a.add k).block = a.block := by unfold Addr.add; split <;> rfl
theorem strs_move {w w' : World} {A : Option Addr} {n : Nat} {l : List ByteArray} (h : Kd.C Kd.string w A n l) (hm : ∀ a, A = some a -> w'.heap[a.block]? = w.heap[a.block]?) : Kd.C Kd.string w' A n l := by
 obtain ⟨h1, h2, h3⟩ := h
 refine ⟨h1, h2, fun hn => ?_⟩
 obtain ⟨ad, e, hc⟩ := h3 hn
 refine ⟨ad, e, fun j p hj => ?_⟩
 obtain ⟨c, hs, hr, hcell⟩ := hc j p hj
 exact ⟨c, hs, hr, fun i u hu => (World.cell?_of_block (by rw [add_block]; exact hm ad e)).trans (hcell i u hu)⟩
theorem infoS : ∃ i, Tryz.prog.info? 9 = some i /\ i.zero = some (.string ⟨#[]⟩) /\ i.size = 1 /\ i.bytes = 16 := by
 have h : (Tryz.prog.info? 9).map (fun i => (i.zero, i.size, i.bytes)) = some (some (.string ⟨#[]⟩), 1, 16) := by kernel_rfl
 match hi : Tryz.prog.info? 9, h with
 | some i, h =>
  simp only [Option.map_some, Option.some.injEq, Prod.mk.injEq] at h
  exact ⟨i, rfl, h.1, h.2.1, h.2.2⟩
theorem str_app {ops : Array Oper} {rest : List Oper} {o : Oper} {a : Act} {Q : Exit -> Act -> World -> Prop} {base : Nat} {w : World} {v : Value} {l : List ByteArray} {x : ByteArray} (hgd : o.guard = none) (s y : Operand) (t : TypeId)
 (ho : o.op = .call { callee := .builtin .append, args := #[s, y], argTypes := #[t, t] }) (ht : Tryz.prog.underlying t = some (.slice 9))
 (hs : a.eval s = v) (n c : Nat) (hx : a.eval y = .slice (some ⟨w.heap.size, 0, none⟩) 1 c) (hrow : StrRow base w v l) (hn : l.length = n) (hb : n <= 1000000) (hbase : base <= w.heap.size)
 (h : ∀ g cap w', StrRow base w' (.slice (some ⟨g, 0, none⟩) (n + 1) cap) (l ++ [x]) -> Grew v w w' -> wpList Tryz.prog ops Q rest (a.put o.dst (.slice (some ⟨g, 0, none⟩) (n + 1) cap)) w') :
 wpList Tryz.prog ops Q (o :: rest) a (w.alloc (.cells #[.string x] 9)) := by
 subst hn
 obtain ⟨iF, hiF, hzF, hsF, hbF⟩ := infoS
 have hown := hrow
 unfold StrRow at hown
 refine wpList_append_lies _ hgd s y t ho base 9 iF _ 1 16 ht hiF hzF hsF hbF rfl (by omega) v l.length _ hs (hown.alloc _) ⟨w.heap.size, 0, none⟩ 1 c [.string x] hx rfl (World.news_of_block (heap_alloc_at w _)) (fun u hu => by rw [List.mem_singleton] at hu; subst hu; rfl) (by omega) (by unfold maxLen; omega) (by omega) (by simp; omega) (w.heap.size + 1) (by simp) ?_
 intro g cap w' hown' hgrow hat hlt
 have hsz := hgrow.size
 rw [size_alloc] at hsz
 refine h g cap w' ?_ ⟨by omega, hgrow.os, hgrow.tape, hgrow.output, fun k h1 h2 => (hgrow.block k (by rw [size_alloc]; omega) h2).trans (heap_alloc_lt w _ _ h1)⟩
 unfold StrRow
 rw [List.map_append, List.length_append]
 exact hown'
end Go.Proofs.YtbiioaggilaebaaGreatDoor.Tm
