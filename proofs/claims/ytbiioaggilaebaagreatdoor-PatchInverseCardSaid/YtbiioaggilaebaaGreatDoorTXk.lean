/- What LawPatchInverse lean on, part k of 29: the texts TmWb, RefE, ShaD, TmG, TmXb, RefF. -/
import Derived.Test.YtbiioaggilaebaaGreatDoorTX0
import Derived.Test.YtbiioaggilaebaaGreatDoorTXg
import Derived.Test.YtbiioaggilaebaaGreatDoorTXh
import Derived.Test.YtbiioaggilaebaaGreatDoorTXi
import Derived.Test.YtbiioaggilaebaaGreatDoorTXj
import Derived.Deep.RegionLaw
import Derived.Deep.AppendLies
set_option linter.all false
set_option maxRecDepth 100000
set_option maxHeartbeats 16000000
namespace Go.Proofs.YtbiioaggilaebaaGreatDoor.Tm
open Go Go.RowKit B Bld
mutual
def wp : F -> List UInt8 -> List UInt8
 | .mk true x l, t => if 65536 < t.length then wps l t else wps l (t ++ [40]) ++ [41]
 | .mk false x l, t => if 65536 < t.length then t else t ++ (Lib.decDigits x.length ++ 58 :: x)
def wps : List F -> List UInt8 -> List UInt8
 | [], t => t
 | f :: l, t => wps l (wp f t)
end
mutual
theorem wp_len : ∀ (f : F) (t : List UInt8), t.length <= (wp f t).length /\ (wp f t).length <= t.length + f.bytes.length
 | .mk true x l, t => by
  unfold wp F.bytes
  have h1 := wps_len l t
  have h2 := wps_len l (t ++ [40])
  simp only [List.length_append, List.length_cons, List.length_nil] at h2 ⊢
  split
  . omega
  . simp only [List.length_append, List.length_cons, List.length_nil]
    omega
 | .mk false x l, t => by
  unfold wp F.bytes
  split <;> simp only [List.length_append] <;> omega
theorem wps_len : ∀ (l : List F) (t : List UInt8), t.length <= (wps l t).length /\ (wps l t).length <= t.length + (bytess l).length
 | [], t => by unfold wps; simp
 | f :: l, t => by
  unfold wps bytess
  have h1 := wp_len f t
  have h2 := wps_len l (wp f t)
  rw [List.length_append]
  omega
end
mutual
theorem wp_fits : ∀ (f : F) (t : List UInt8), t.length + f.bytes.length <= 65536 -> wp f t = t ++ f.bytes
 | .mk true x l, t, h => by
  unfold F.bytes at h ⊢
  unfold wp
  simp only [List.length_append, List.length_cons, List.length_nil] at h
  rw [if_neg (by omega), wps_fits l (t ++ [40]) (by simp only [List.length_append, List.length_cons, List.length_nil]; omega)]
  simp
 | .mk false x l, t, h => by
  unfold F.bytes at h ⊢
  unfold wp
  rw [if_neg (by omega)]
theorem wps_fits : ∀ (l : List F) (t : List UInt8), t.length + (bytess l).length <= 65536 -> wps l t = t ++ bytess l
 | [], t, h => by unfold wps bytess; simp
 | f :: l, t, h => by
  unfold bytess at h ⊢
  rw [List.length_append] at h
  unfold wps
  rw [wp_fits f t (by omega), wps_fits l _ (by rw [List.length_append]; omega), List.append_assoc]
end
mutual
theorem wp_over : ∀ (f : F) (t : List UInt8), 65536 < t.length + f.bytes.length -> 65536 < (wp f t).length
 | .mk true x l, t, h => by
  unfold F.bytes at h
  unfold wp
  simp only [List.length_append, List.length_cons, List.length_nil] at h
  split
  . have := (wps_len l t).1
    omega
  . simp only [List.length_append, List.length_cons, List.length_nil]
    by_cases h2 : 65536 < (t ++ [40]).length + (bytess l).length
    . have := wps_over l (t ++ [40]) h2
      omega
    . rw [wps_fits l _ (by omega)]
      simp only [List.length_append, List.length_cons, List.length_nil] at h2 ⊢
      omega
 | .mk false x l, t, h => by
  unfold F.bytes at h
  unfold wp
  split
  . assumption
  . rw [List.length_append]; exact h
theorem wps_over : ∀ (l : List F) (t : List UInt8), 65536 < t.length + (bytess l).length -> 65536 < (wps l t).length
 | [], t, h => by unfold bytess at h; unfold wps; simpa using h
 | f :: l, t, h => by
  unfold bytess at h
  rw [List.length_append] at h
  unfold wps
  by_cases h2 : 65536 < t.length + f.bytes.length
  . have h3 := wp_over f t h2
    have := (wps_len l (wp f t)).1
    omega
  . refine wps_over l _ ?_
    rw [wp_fits f t (by omega), List.length_append]
    omega
end
theorem wps_append : ∀ (a b : List F) (t : List UInt8), wps (a ++ b) t = wps b (wps a t)
 | [], b, t => by rw [List.nil_append]; conv => rhs; rw [wps]
 | f :: a, b, t => by rw [List.cons_append, wps, wps, wps_append a b]
theorem wps_take (l : List F) (k : Nat) (t : List UInt8) (h : k < l.length) : wps (l.take (k + 1)) t = wp (l[k]) (wps (l.take k) t) := by
 rw [List.take_add_one, List.getElem?_eq_getElem h, Option.toList_some, wps_append, wps, wps]
theorem put_textS (B g : Nat) (t : List UInt8) (e d : Value) (s : ByteArray) (deep : Nat) (A : Option Addr) (c : Nat) (w : World) (h : WAt B g t e d w) (htab : Tab w) (hdeep : deep <= 8)
 (ht6 : t.length <= 65536) (hlen : t.length + (txt s.data.toList).bytes.length <= 140000000000000) (hBw : B <= w.heap.size) :
 Calls Tryz.prog 78 #[.pointer (some ⟨g, 0, none⟩), .agg #[.bool false, .string s, .slice A 0 c], .int .i64 deep] w
  fun ev w' => ev = .returned (.tuple #[]) /\ WAt B g (t ++ (txt s.data.toList).bytes) e d w' /\ Below B w w' /\ Oth g w w' := by
 have hsl : s.data.toList.length = s.size := by rw [Array.length_toList]; rfl
 have hbl : (txt s.data.toList).bytes.length = (Lib.decDigits s.size).length + 1 + s.size := by
  unfold txt F.bytes
  simp [hsl]; omega
 have hbe : (txt s.data.toList).bytes = (⟨(Lib.decDigits s.size).toArray⟩ ++ ⟨#[58]⟩ ++ s : ByteArray).data.toList := by
  unfold txt F.bytes
  rw [hsl]
  simp [ByteArray.data_append]
 have hdi : ¬ (8 : Int) < (deep : Int) := by omega
 have hti : decide ((65536 : Int) < (t.length : Int)) = false := by simp; omega
 have hNs : (⟨(Lib.decDigits s.size).toArray⟩ : ByteArray).size = (Lib.decDigits s.size).length := by show (Lib.decDigits s.size).toArray.size = _; simp
 obtain ⟨w0, hw0⟩ : ∃ w0, w0 = w.alloc (.cells #[.bool false, .string s, .slice A 0 c] 74) := ⟨_, rfl⟩
 have hbel : Below B w w0 := by rw [hw0]; exact (Below.refl _ _).alloc hBw _
 have hsz : w.heap.size < w0.heap.size := by rw [hw0]; simp
 have hb0 : w0.heap[w.heap.size]? = some (.cells #[.bool false, .string s, .slice A 0 c] 74 (0, 0)) := by rw [hw0]; exact heap_alloc_at _ _
 have CL := lh (len_any B g t e d w0 (by rw [hw0]; exact wat_alloc h _))
 have CI := lh (itoa_any s.size (by omega) w0.drew (by show Tab w0; rw [hw0]; exact htab.below ((Below.refl _ _).alloc (Nat.le_refl _) _) (Nat.le_refl _)))
 have hwa : WAt B g t e d w0 := by rw [hw0]; exact wat_alloc h _
 rw [hbl] at hlen
 have hN21 : (Lib.decDigits s.size).length <= 21 := by
  have := Lib.itoa_length_le (s.size : Int) (by omega) (by omega)
  rwa [Lib.itoa_nonneg] at this
 have CS := lh (fun (N : ByteArray) W (hN : N.size <= 65536) (hW : Below w0.drew.heap.size w0.drew W) => string_any B g t e d (N ++ ⟨#[58]⟩ ++ s) W (wat_tch (wat_drew hwa) hW) (by rw [ByteArray.size_append, ByteArray.size_append]; show t.length + (N.size + 1 + s.size) <= _; omega) (by have := hW.size; have : w0.drew.heap.size = w0.heap.size := rfl; omega))
 rw [hbe]
 generalize (⟨(Lib.decDigits s.size).toArray⟩ : ByteArray) = N at *
 have hcat1 : (9223372036854775807 < N.size + 1) = False := eq_false (by omega)
 have hcat2 : (9223372036854775807 < N.size + 1 + s.size) = False := eq_false (by omega)
 have hNb := lh (show N.size <= 65536 by omega)
 have hbelH := lh hbel
 have hothH := lh (show Oth g w w0 by rw [hw0]; exact Oth.alloc _ _ _)
 have hneH := lh (show w.heap.size ≠ g by obtain ⟨_, p, v, _, hg, _⟩ := h; have := heap_lt hg; omega)
 have hb0H := lh hb0
 have hszH := lh hsz
 have hBwH := lh hBw
 have hc0 : w0.cell? ⟨w.heap.size, 0, none⟩ = some (.bool false) := by rw [cell_of hb0]; rfl
 have hc1 : w0.cell? ⟨w.heap.size, 1, none⟩ = some (.string s) := by rw [cell_of hb0]; rfl
 have hc2 : w0.cell? ⟨w.heap.size, 2, none⟩ = some (.slice A 0 c) := by rw [cell_of hb0]; rfl
 clear hbe hbl hNs hN21 hsl hlen ht6 hwa hb0 hbel hsz hBw h htab
 go_enter Tryz.func78, Tryz.ntmps78
 go_wp2_with fail
 rw [<- hw0]
 replace hw0 := lh hw0
 refine (CL.out).mono ?_
 rintro ev w1 ⟨rfl, rfl⟩
 go_wp2_with fail
 go_region_held3 (fun W => W.cell? ⟨w.heap.size, 1, none⟩ = some (.string s)) (first | go_keep | (exact (cell_of hbx.out 1).trans rfl) | (exact (box_keep hbx.out hoth3.out hneH.out (by decide) 1).trans rfl))
  ((first
   | (go_at_call 77; refine (CI.out).mono ?_; rintro ev w2 ⟨rfl, hb1⟩; have hb1H := lh hb1; have hbx := lh ((hb1.block _ hszH.out).trans hb0H.out))
   | (go_at_call 122; refine (CS.out N _ hNb.out (by exact hb1)).mono ?_; rintro ev w3 ⟨rfl, hwat, hb3, hoth3⟩; replace hoth3 := lh hoth3; replace hwat := lh hwat; replace hb3 := lh hb3)))
 all_goals (try go_wp2_with fail)
 go_end0
 refine ⟨rfl, hwat.out, (hbelH.out.trans ?_).trans hb3.out, (hothH.out.trans ?_).trans hoth3.out⟩
 . have h := hb1H.out
   exact (Below.drew (Below.refl B w1)).trans (Below.mono (B' := B) (w := w1.drew) h (Nat.le_of_lt (Nat.lt_of_le_of_lt hBwH.out hszH.out)))
 . exact Oth.below (w := w1.drew) hb1H.out
theorem put_textB (B g : Nat) (t : List UInt8) (e d : Value) (s : ByteArray) (deep : Nat) (A : Option Addr) (c : Nat) (w : World) (h : WAt B g t e d w) (hdeep : deep <= 8) (ht6 : 65536 < t.length) (ht7 : t.length <= 140000000000000) (hBw : B <= w.heap.size) :
 Calls Tryz.prog 78 #[.pointer (some ⟨g, 0, none⟩), .agg #[.bool false, .string s, .slice A 0 c], .int .i64 deep] w (PutPost B g t e d w) := by
 have hdi : ¬ (8 : Int) < (deep : Int) := by omega
 have hti : decide ((65536 : Int) < (t.length : Int)) = true := by simp; omega
 obtain ⟨w0, hw0⟩ : ∃ w0, w0 = w.alloc (.cells #[.bool false, .string s, .slice A 0 c] 74) := ⟨_, rfl⟩
 have hbel := lh (show Below B w w0 by rw [hw0]; exact (Below.refl _ _).alloc hBw _)
 have hoth := lh (show Oth g w w0 by rw [hw0]; exact Oth.alloc _ _ _)
 have hwa := lh (show WAt B g t e d w0 by rw [hw0]; exact wat_alloc h _)
 have CL := lh (len_any B g t e d w0 hwa.out)
 have hb0 : w0.heap[w.heap.size]? = some (.cells #[.bool false, .string s, .slice A 0 c] 74 (0, 0)) := by rw [hw0]; exact heap_alloc_at _ _
 have hc0 : w0.cell? ⟨w.heap.size, 0, none⟩ = some (.bool false) := by rw [cell_of hb0]; rfl
 have hc1 : w0.cell? ⟨w.heap.size, 1, none⟩ = some (.string s) := by rw [cell_of hb0]; rfl
 have hc2 : w0.cell? ⟨w.heap.size, 2, none⟩ = some (.slice A 0 c) := by rw [cell_of hb0]; rfl
 clear hb0 h ht6 ht7
 go_enter Tryz.func78, Tryz.ntmps78
 go_wp2_with fail
 rw [<- hw0]
 replace hw0 := lh hw0
 refine (CL.out).mono ?_
 rintro ev w1 ⟨rfl, rfl⟩
 go_wp2_with fail
 go_end0
 exact ⟨rfl, hwa.out, hbel.out, hoth.out⟩
def PutsG (B g : Nat) (e d : Value) (f : F) : Prop := ∀ (t : List UInt8) (deep : Nat) (c0 c1 c2 : Value) (w : World), FV B w f [c0, c1, c2] -> WAt B g t e d w -> Tab w -> B <= w.heap.size -> 2 < B -> f.depth + deep <= 8 -> t.length + f.bytes.length <= 140000000000000 ->
 Calls Tryz.prog 78 #[.pointer (some ⟨g, 0, none⟩), .agg #[c0, c1, c2], .int .i64 deep] w (PutPost B g (wp f t) e d w)
theorem put_listS (B g : Nat) (e d : Value) (l : List F) (ih : ∀ (k : Nat) (h : k < l.length), PutsG B g e d l[k]) (t : List UInt8) (deep : Nat) (A : Option Addr) (c : Nat) (w : World) (hl : l.length <= 140737488355328) (hfs : FVs B w A 0 l) (h : WAt B g t e d w) (htab : Tab w)
 (hBw : B <= w.heap.size) (hgB : 2 < B) (hdeep : depths l + 1 + deep <= 8) (ht6 : t.length <= 65536) (hlen : t.length + ((bytess l).length + 2) <= 140000000000000) :
 Calls Tryz.prog 78 #[.pointer (some ⟨g, 0, none⟩), .agg #[.bool true, .string ⟨#[]⟩, .slice A l.length c], .int .i64 deep] w (PutPost B g (wps l (t ++ [40]) ++ [41]) e d w) := by
 have hdi : ¬ (8 : Int) < (deep : Int) := by omega
 have hdi1 : ¬ (8 : Int) < (deep : Int) + 1 := by omega
 have hd8 : (deep : Int) <= 8 := by omega
 have hti : decide ((65536 : Int) < (t.length : Int)) = false := by simp; omega
 obtain ⟨w0, hw0⟩ : ∃ w0, w0 = w.alloc (.cells #[.bool true, .string ⟨#[]⟩, .slice A l.length c] 74) := ⟨_, rfl⟩
 have hbel := lh (show Below B w w0 by rw [hw0]; exact (Below.refl _ _).alloc hBw _)
 have hoth := lh (show Oth g w w0 by rw [hw0]; exact Oth.alloc _ _ _)
 have hwa : WAt B g t e d w0 := by rw [hw0]; exact wat_alloc h _
 have hsz : B <= w0.heap.size := by rw [hw0]; simp; omega
 have CL := lh (len_any B g t e d w0 hwa)
 have C40 : Calls Tryz.prog 123 #[.pointer (some ⟨g, 0, none⟩), .int .u8 40] w0 fun ev w' => ev = .returned .nilIface /\ WAt B g (t ++ [40]) e d w' /\ Below B w0 w' /\ Oth g w0 w' := byte_any B g t e d 40 w0 hwa (by omega) hsz
 have C40H := lh C40
 have hb0 : w0.heap[w.heap.size]? = some (.cells #[.bool true, .string ⟨#[]⟩, .slice A l.length c] 74 (0, 0)) := by rw [hw0]; exact heap_alloc_at _ _
 have hb0H := lh hb0
 have hneH := lh (show w.heap.size ≠ g by obtain ⟨_, p, v, _, hg, _⟩ := h; have := heap_lt hg; omega)
 have htabH := lh htab
 have hfsH := lh hfs
 have hc0 : w0.cell? ⟨w.heap.size, 0, none⟩ = some (.bool true) := by rw [cell_of hb0]; rfl
 have hc1 : w0.cell? ⟨w.heap.size, 1, none⟩ = some (.string ⟨#[]⟩) := by rw [cell_of hb0]; rfl
 have hc2 : w0.cell? ⟨w.heap.size, 2, none⟩ = some (.slice A l.length c) := by rw [cell_of hb0]; rfl
 clear hwa hb0 h htab hfs C40
 go_enter Tryz.func78, Tryz.ntmps78
 go_wp2_with fail
 rw [<- hw0]
 replace hw0 := lh hw0
 refine (CL.out).mono ?_
 rintro ev w1 ⟨rfl, rfl⟩
 go_wp2_with fail
 refine (C40H.out).mono ?_
 rintro ev w2 ⟨rfl, hw2, hb2, ho2⟩
 have hbx := lh (ho2 _ _ _ _ hneH.out (by decide) hb0H.out)
 have hx2 : w2.cell? ⟨w.heap.size, 2, none⟩ = some (.slice A l.length c) := by rw [cell_of hbx.out]; rfl
 replace hbel := lh (hbel.out.trans hb2)
 replace hoth := lh (hoth.out.trans ho2)
 replace hw2 := lh hw2
 clear hb2 ho2 CL C40H
 go_wp2_with fail
 obtain ⟨n, hn⟩ : ∃ n, n = l.length := ⟨_, rfl⟩
 rw [<- hn] at hl hx2 ⊢
 replace hn := lh hn
 go_loopg [80] n (fun g' i W => ∃ k : Nat, g' = n - k /\ k <= n /\ i = .int .i64 k /\ WAt B g (wps (l.take k) (t ++ [40])) e d W /\ Below B w W /\ Oth g w W)
 case atStart => exact ⟨0, rfl, by omega, rfl, by simpa [wps] using hw2.out, hbel.out, hoth.out⟩
 case round =>
  clear hw2 hbel hoth hx2 hbx
  obtain ⟨k, hg', hk, rfl, hwk, hbk, hok⟩ := hrel
  subst hg'
  by_cases hkn : k < n
  . have hki : (k : Int) < (n : Int) := by omega
    have hfk := FVs.get (FVs.below hbk l A 0 hfsH.out) k (by rw [<- hn.out]; exact hkn)
    rw [Nat.zero_add] at hfk
    obtain ⟨b, o, c0, c1, c2, hA, hbB, h0, h1, h2, hf⟩ := hfk
    subst hA
    have ihk := ih k (by rw [<- hn.out]; exact hkn)
    obtain ⟨F', hF'⟩ : ∃ F', F' = l[k]'(by rw [<- hn.out]; exact hkn) := ⟨_, rfl⟩
    rw [<- hF'] at hf ihk
    have hfr : F'.right = true -> True := fun _ => trivial
    replace hF' := lh hF'
    obtain ⟨fb, ft, fl⟩ := F'
    have hf2 := hf
    unfold FV at hf2
    obtain ⟨A2, cc, hcs, _⟩ := hf2
    simp only [List.cons.injEq, and_true] at hcs
    obtain ⟨rfl, rfl, rfl⟩ := hcs
    generalize hfn : fl.length = fn at *
    replace hfn := lh hfn
    have hwkH := lh hwk
    have ihH := lh ihk
    have hbkH := lh hbk
    have hokH := lh hok
    have hfH := lh hf
    clear hwk hbk hok hf ihk hfr
    have hdk : (F.mk fb ft fl).depth + (deep + 1) <= 8 := by
     have := depths_get (l := l) k (by rw [<- hn.out]; exact hkn)
     rw [<- hF'.out] at this
     omega
    have hbt := wps_take l k (t ++ [40]) (by rw [<- hn.out]; exact hkn)
    rw [<- hF'.out] at hbt
    have hlk : (wps (l.take k) (t ++ [40])).length + (F.mk fb ft fl).bytes.length <= 140000000000000 := by
     have h0 := (wps_len (l.take k) (t ++ [40])).2
     have h2 := bytess_take l k (by rw [<- hn.out]; exact hkn)
     rw [<- hF'.out] at h2
     have h1 := bytess_le l (k + 1)
     rw [h2, List.length_append] at h1
     rw [List.length_append, List.length_singleton] at h0
     omega
    have CP := ihH.out (wps (l.take k) (t ++ [40])) (deep + 1) (.bool fb) (.string ⟨ft.toArray⟩) (.slice A2 fn cc) (wr.alloc (.cells #[.bool fb, .string ⟨ft.toArray⟩, .slice A2 fn cc] 74))
     (FV.below ((Below.refl B wr).alloc (Nat.le_trans hBw hbkH.out.size) _) _ _ hfH.out) (wat_alloc hwkH.out _) (htabH.out.keep (hbkH.out.alloc (Nat.le_trans hBw hbkH.out.size) _) hgB) (by have := hbkH.out.size; simp; omega) hgB hdk hlk
    rw [show ((deep + 1 : Nat) : Int) = (deep : Int) + 1 from by omega] at CP
    replace CP := lh CP
    replace hbt := lh hbt
    clear hdk hlk
    go_wp2_with fail
    refine (CP.out).mono ?_
    rintro ev w3 ⟨rfl, hw3, hb3, ho3⟩
    replace hw3 := lh hw3
    replace hb3 := lh hb3
    replace ho3 := lh ho3
    go_wp2_with fail
    go_roundg (n - (k + 1))
    case measure => omega
    case rel => exact ⟨k + 1, rfl, by omega, by go_num, by rw [hbt.out]; exact hw3.out, (hbkH.out.alloc (Nat.le_trans hBw hbkH.out.size) _).trans hb3.out, (hokH.out.trans (Oth.alloc _ _ _)).trans ho3.out⟩
  . have hkn' : k = n := by omega
    subst hkn'
    have hki : ¬ (k : Int) < (k : Int) := by omega
    rw [List.take_of_length_le (by rw [<- hn.out]; exact Nat.le_refl _)] at hwk
    have C41 : Calls Tryz.prog 123 #[.pointer (some ⟨g, 0, none⟩), .int .u8 41] wr fun ev w' => ev = .returned .nilIface /\ WAt B g (wps l (t ++ [40]) ++ [41]) e d w' /\ Below B wr w' /\ Oth g wr w' := byte_any B g _ e d 41 wr hwk (by have := (wps_len l (t ++ [40])).2; rw [List.length_append, List.length_singleton] at this; omega) (Nat.le_trans hBw hbk.size)
    replace C41 := lh C41
    have hbkH := lh hbk
    have hokH := lh hok
    clear hwk hbk hok
    go_wp2_with fail
    refine (C41.out).mono ?_
    rintro ev w3 ⟨rfl, hw3, hb3, ho3⟩
    replace hw3 := lh hw3
    replace hb3 := lh hb3
    replace ho3 := lh ho3
    go_wp2_with fail
    go_end0
    exact ⟨rfl, hw3.out, hbkH.out.trans hb3.out, hokH.out.trans ho3.out⟩
theorem put_listB (B g : Nat) (e d : Value) (l : List F) (ih : ∀ (k : Nat) (h : k < l.length), PutsG B g e d l[k]) (t : List UInt8) (deep : Nat) (A : Option Addr) (c : Nat) (w : World) (hl : l.length <= 140737488355328) (hfs : FVs B w A 0 l) (h : WAt B g t e d w) (htab : Tab w)
 (hBw : B <= w.heap.size) (hgB : 2 < B) (hdeep : depths l + 1 + deep <= 8) (ht6 : 65536 < t.length) (hlen : t.length + ((bytess l).length + 2) <= 140000000000000) :
 Calls Tryz.prog 78 #[.pointer (some ⟨g, 0, none⟩), .agg #[.bool true, .string ⟨#[]⟩, .slice A l.length c], .int .i64 deep] w (PutPost B g (wps l t) e d w) := by
 have hdi : ¬ (8 : Int) < (deep : Int) := by omega
 have hdi1 : ¬ (8 : Int) < (deep : Int) + 1 := by omega
 have hd8 : (deep : Int) <= 8 := by omega
 have hti : decide ((65536 : Int) < (t.length : Int)) = true := by simp; omega
 obtain ⟨w0, hw0⟩ : ∃ w0, w0 = w.alloc (.cells #[.bool true, .string ⟨#[]⟩, .slice A l.length c] 74) := ⟨_, rfl⟩
 have hbel := lh (show Below B w w0 by rw [hw0]; exact (Below.refl _ _).alloc hBw _)
 have hoth := lh (show Oth g w w0 by rw [hw0]; exact Oth.alloc _ _ _)
 have hwa : WAt B g t e d w0 := by rw [hw0]; exact wat_alloc h _
 have hsz : B <= w0.heap.size := by rw [hw0]; simp; omega
 have CL := lh (len_any B g t e d w0 hwa)
 have hwaH := lh hwa
 have hb0 : w0.heap[w.heap.size]? = some (.cells #[.bool true, .string ⟨#[]⟩, .slice A l.length c] 74 (0, 0)) := by rw [hw0]; exact heap_alloc_at _ _
 have hb0H := lh hb0
 have hneH := lh (show w.heap.size ≠ g by obtain ⟨_, p, v, _, hg, _⟩ := h; have := heap_lt hg; omega)
 have htabH := lh htab
 have hfsH := lh hfs
 have hc0 : w0.cell? ⟨w.heap.size, 0, none⟩ = some (.bool true) := by rw [cell_of hb0]; rfl
 have hc1 : w0.cell? ⟨w.heap.size, 1, none⟩ = some (.string ⟨#[]⟩) := by rw [cell_of hb0]; rfl
 have hc2 : w0.cell? ⟨w.heap.size, 2, none⟩ = some (.slice A l.length c) := by rw [cell_of hb0]; rfl
 clear hwa hb0 h htab hfs
 go_enter Tryz.func78, Tryz.ntmps78
 go_wp2_with fail
 rw [<- hw0]
 replace hw0 := lh hw0
 refine (CL.out).mono ?_
 rintro ev w1 ⟨rfl, rfl⟩
 have hx2 : w1.cell? ⟨w.heap.size, 2, none⟩ = some (.slice A l.length c) := by rw [cell_of hb0H.out]; rfl
 go_wp2_with fail
 obtain ⟨n, hn⟩ : ∃ n, n = l.length := ⟨_, rfl⟩
 rw [<- hn] at hl hx2 ⊢
 replace hn := lh hn
 go_loopg [80] n (fun g' i W => ∃ k : Nat, g' = n - k /\ k <= n /\ i = .int .i64 k /\ WAt B g (wps (l.take k) t) e d W /\ Below B w W /\ Oth g w W)
 case atStart => exact ⟨0, rfl, by omega, rfl, by simpa [wps] using hwaH.out, hbel.out, hoth.out⟩
 case round =>
  clear hbel hoth hx2
  obtain ⟨k, hg', hk, rfl, hwk, hbk, hok⟩ := hrel
  subst hg'
  by_cases hkn : k < n
  . have hki : (k : Int) < (n : Int) := by omega
    have hfk := FVs.get (FVs.below hbk l A 0 hfsH.out) k (by rw [<- hn.out]; exact hkn)
    rw [Nat.zero_add] at hfk
    obtain ⟨b, o, c0, c1, c2, hA, hbB, h0, h1, h2, hf⟩ := hfk
    subst hA
    have ihk := ih k (by rw [<- hn.out]; exact hkn)
    obtain ⟨F', hF'⟩ : ∃ F', F' = l[k]'(by rw [<- hn.out]; exact hkn) := ⟨_, rfl⟩
    rw [<- hF'] at hf ihk
    have hfr : F'.right = true -> True := fun _ => trivial
    replace hF' := lh hF'
    obtain ⟨fb, ft, fl⟩ := F'
    have hf2 := hf
    unfold FV at hf2
    obtain ⟨A2, cc, hcs, _⟩ := hf2
    simp only [List.cons.injEq, and_true] at hcs
    obtain ⟨rfl, rfl, rfl⟩ := hcs
    generalize hfn : fl.length = fn at *
    replace hfn := lh hfn
    have hwkH := lh hwk
    have ihH := lh ihk
    have hbkH := lh hbk
    have hokH := lh hok
    have hfH := lh hf
    clear hwk hbk hok hf ihk hfr
    have hdk : (F.mk fb ft fl).depth + (deep + 1) <= 8 := by
     have := depths_get (l := l) k (by rw [<- hn.out]; exact hkn)
     rw [<- hF'.out] at this
     omega
    have hbt := wps_take l k t (by rw [<- hn.out]; exact hkn)
    rw [<- hF'.out] at hbt
    have hlk : (wps (l.take k) t).length + (F.mk fb ft fl).bytes.length <= 140000000000000 := by
     have h0 := (wps_len (l.take k) t).2
     have h2 := bytess_take l k (by rw [<- hn.out]; exact hkn)
     rw [<- hF'.out] at h2
     have h1 := bytess_le l (k + 1)
     rw [h2, List.length_append] at h1
     omega
    have CP := ihH.out (wps (l.take k) t) (deep + 1) (.bool fb) (.string ⟨ft.toArray⟩) (.slice A2 fn cc) (wr.alloc (.cells #[.bool fb, .string ⟨ft.toArray⟩, .slice A2 fn cc] 74))
     (FV.below ((Below.refl B wr).alloc (Nat.le_trans hBw hbkH.out.size) _) _ _ hfH.out) (wat_alloc hwkH.out _) (htabH.out.keep (hbkH.out.alloc (Nat.le_trans hBw hbkH.out.size) _) hgB) (by have := hbkH.out.size; simp; omega) hgB hdk hlk
    rw [show ((deep + 1 : Nat) : Int) = (deep : Int) + 1 from by omega] at CP
    replace CP := lh CP
    replace hbt := lh hbt
    clear hdk hlk
    go_wp2_with fail
    refine (CP.out).mono ?_
    rintro ev w3 ⟨rfl, hw3, hb3, ho3⟩
    replace hw3 := lh hw3
    replace hb3 := lh hb3
    replace ho3 := lh ho3
    go_wp2_with fail
    go_roundg (n - (k + 1))
    case measure => omega
    case rel => exact ⟨k + 1, rfl, by omega, by go_num, by rw [hbt.out]; exact hw3.out, (hbkH.out.alloc (Nat.le_trans hBw hbkH.out.size) _).trans hb3.out, (hokH.out.trans (Oth.alloc _ _ _)).trans ho3.out⟩
  . have hkn' : k = n := by omega
    subst hkn'
    have hki : ¬ (k : Int) < (k : Int) := by omega
    rw [List.take_of_length_le (by rw [<- hn.out]; exact Nat.le_refl _)] at hwk
    have hwkH := lh hwk
    have hbkH := lh hbk
    have hokH := lh hok
    clear hwk hbk hok
    go_wp2_with fail
    go_end0
    exact ⟨rfl, hwkH.out, hbkH.out, hokH.out⟩
theorem put_anyG (B g : Nat) (e d : Value) : ∀ (n : Nat) (f : F), SizeOf.sizeOf f < n -> f.right = true -> PutsG B g e d f := by
 intro n
 induction n with
 | zero => intro f h; exact absurd h (by omega)
 | succ n ih =>
  rintro ⟨b, x, l⟩ hsz hr t deep c0 c1 c2 w hf h htab hBw hgB hdeep hlen
  unfold FV at hf
  obtain ⟨A, c, hcs, hc, hll, hfs⟩ := hf
  simp only [List.cons.injEq, and_true] at hcs
  obtain ⟨rfl, rfl, rfl⟩ := hcs
  cases b with
  | true =>
   unfold F.right at hr
   simp only [Bool.and_eq_true] at hr
   have hx : x = [] := by simpa using hr.1
   subst hx
   unfold F.bytes F.depth at *
   have hb : (40 :: (bytess l ++ [41])).length = (bytess l).length + 2 := by simp
   rw [hb] at hlen
   have hih : ∀ (k : Nat) (h : k < l.length), PutsG B g e d l[k] := fun k hk => ih _ (by
    have := get_size k hk
    have h2 : SizeOf.sizeOf (F.mk true [] l) = 1 + SizeOf.sizeOf true + SizeOf.sizeOf ([] : List UInt8) + SizeOf.sizeOf l := by rw [F.mk.sizeOf_spec]
    omega) (rights_get hr.2 k hk)
   unfold wp
   split
   . next h6 => exact put_listB B g e d l hih t deep A c w hll hfs h htab hBw hgB hdeep h6 hlen
   . next h6 => exact put_listS B g e d l hih t deep A c w hll hfs h htab hBw hgB hdeep (by omega) hlen
  | false =>
   unfold F.right at hr
   have hl0 : l = [] := by simpa using hr
   subst hl0
   have eF : (txt (⟨x.toArray⟩ : ByteArray).data.toList) = .mk false x [] := rfl
   unfold wp
   split
   . next h6 => exact put_textB B g t e d ⟨x.toArray⟩ deep A c w h (by omega) h6 (by omega) hBw
   . next h6 =>
     have := put_textS B g t e d ⟨x.toArray⟩ deep A c w h htab (by omega) (by omega) (by rw [eF]; exact hlen) hBw
     rw [eF] at this
     unfold F.bytes at this
     exact this
end Go.Proofs.YtbiioaggilaebaaGreatDoor.Tm
namespace Go.Proofs.YtbiioaggilaebaaGreatDoor.Ref
def pstep (l : List Nat) (k : Nat) : List Nat := if l.any (fun d => k % d == 0) then l else l ++ [k]
def pst : Nat -> List Nat
 | 0 => []
 | t + 1 => pstep (pst t) (t + 2)
theorem pst_small : ∀ t, ∀ d ∈ pst t, 2 <= d /\ d < t + 2
 | 0, d, h => absurd h (by simp [pst])
 | t + 1, d, h => by
  rw [pst, pstep] at h
  split at h
  . have := pst_small t d h; omega
  . rcases List.mem_append.1 h with h | h
    . have := pst_small t d h; omega
    . rw [List.mem_singleton] at h; omega
theorem pst_mono : ∀ t u, t <= u -> (pst t).length <= (pst u).length
 | t, 0, h => by obtain rfl : t = 0 := by omega
                 exact Nat.le_refl _
 | t, u + 1, h => by
  by_cases e : t = u + 1
  . subst e; exact Nat.le_refl _
  . have := pst_mono t u (by omega)
    rw [pst, pstep]
    split
    . exact this
    . simp; omega
theorem pst8 : (pst 17).length < 8 /\ (pst 18).length = 8 := by decide +kernel
theorem pst64 : (pst 309).length < 64 /\ (pst 310).length = 64 := by decide +kernel
def tab (n t q : Nat) : List (BitVec 32) := (pst t).map fun p => BitVec.ofNat 32 (rootN p q)
theorem tabH : tab 8 18 2 = Sha.H0 := by decide +kernel
theorem tabK : tab 64 310 3 = Sha.K := by decide +kernel
end Go.Proofs.YtbiioaggilaebaaGreatDoor.Ref
namespace Go.Proofs.YtbiioaggilaebaaGreatDoor.Sha
open Go.RowKit B
def dig (n : Nat) : UInt8 := ([48, 49, 50, 51, 52, 53, 54, 55, 56, 57, 97, 98, 99, 100, 101, 102] : List UInt8).getD n 0
def hexL (l : List UInt8) : List UInt8 := l.flatMap fun c => [dig (c.toNat / 16), dig (c.toNat % 16)]
theorem byte_cell {w : World} {g : Nat} {cells : Array Value} {t : TypeId} {fz : Nat × Nat} {s : ByteArray} (hg : w.heap[g]? = some (.cells cells t fz)) (ht : cells.toList.take s.size = bc s.data.toList) (j : Nat) (hj : j < s.size) :
 w.cell? ⟨g, j, none⟩ = some (.int .u8 ((s.data.toList.getD j 0).toNat : Int)) := by
 have hl : j < s.data.toList.length := by rw [len_list]; exact hj
 rw [cell_of hg, <- Array.getElem?_toList, <- show (cells.toList.take s.size)[j]? = cells.toList[j]? from by rw [List.getElem?_take, if_pos hj], ht, bc_get _ _ hl, List.getD_eq_getElem?_getD, List.getElem?_eq_getElem hl]
 rfl
theorem nib2 {c : UInt8} {n : Int} (h : (c.toNat : Int) = n) : bits .and .u8 n 15 = n % 16 := by
 subst h
 have : ∀ k, k < 256 -> bits .and .u8 ((k : Nat) : Int) 15 = ((k : Nat) : Int) % 16 := by decide +kernel
 exact this _ c.toNat_lt
theorem digat (k : Nat) (h : k < ({ data := #[48, 49, 50, 51, 52, 53, 54, 55, 56, 57, 97, 98, 99, 100, 101, 102] } : ByteArray).size) : ({ data := #[48, 49, 50, 51, 52, 53, 54, 55, 56, 57, 97, 98, 99, 100, 101, 102] } : ByteArray)[k]'h = dig k := by
 have : ∀ k, k < 16 -> ∀ h, ({ data := #[48, 49, 50, 51, 52, 53, 54, 55, 56, 57, 97, 98, 99, 100, 101, 102] } : ByteArray)[k]'h = dig k := by decide
 exact this k h h
theorem hex_next {l : List UInt8} (j : Nat) (hj : j < l.length) : hexL (l.take (j + 1)) = hexL (l.take j) ++ [dig ((l.getD j 0).toNat / 16), dig ((l.getD j 0).toNat % 16)] := by
 unfold hexL
 rw [List.take_add_one, List.flatMap_append, List.getD_eq_getElem?_getD, List.getElem?_eq_getElem hj]
 simp
theorem hexL_len (l : List UInt8) : (hexL l).length = l.length * 2 := by
 induction l with
 | nil => rfl
 | cons a l ih => unfold hexL at *; simp only [List.flatMap_cons, List.length_append, ih, List.length_cons, List.length_nil]; omega
theorem hexL_len' (b : ByteArray) : (hexL b.data.toList).length = b.size * 2 := by rw [hexL_len, len_list]
theorem undrew {w w' : World} {row : Option Nat} (h : w.drew.grownBy w' row) : w.grownBy w' row := ⟨h.os, h.tape, h.output, h.size, h.block⟩
end Go.Proofs.YtbiioaggilaebaaGreatDoor.Sha
namespace Go.Proofs.YtbiioaggilaebaaGreatDoor.Tm
open Go Go.RowKit B Bld Sha
def RdAt (w : World) (g : Nat) (s : ByteArray) : Prop := w.heap[g]? = some (.cells #[.string s] 142 (0, 0))
theorem rdAt_set {w : World} {g : Nat} {s : ByteArray} (h : RdAt w g s) (r : ByteArray) : RdAt (w.setCell ⟨g, 0, none⟩ (.string r)) g r := heap_set w g 0 (.string r) _ _ _ h
theorem toList_size (s : ByteArray) : s.data.toList.length = s.size := by rw [Array.length_toList]; rfl
theorem getD_some {l : List UInt8} {k : Nat} (h : k < l.length) : l[k]? = some (l.getD k 0) := by rw [List.getD_eq_getElem?_getD, List.getElem?_eq_getElem h]; rfl
theorem extract_toList (s : ByteArray) (a : Nat) : (s.extract a s.size).data.toList = s.data.toList.drop a := by
 rw [Lib.extract_data, List.take_of_length_le]
 rw [List.length_drop, toList_size]
 exact Nat.le_refl _
def LenPost (g : Nat) (s : ByteArray) (w : World) (ev : Ending) (w' : World) : Prop := ∃ n ok r, ev = .returned (.tuple #[.int .i64 n, .bool ok]) /\ RdAt w' g r /\ LenSpec s.data.toList n ok r.data.toList /\ Tch (fun k => k = g) w w'
theorem lenPost_same {g : Nat} {s : ByteArray} {w : World} {n : Int} (h : RdAt w g s) (hl : LenSpec s.data.toList n false s.data.toList) : LenPost g s w (.returned (.tuple #[.int .i64 n, .bool false])) w :=
 ⟨n, false, s, rfl, h, hl, Tch.refl _ _⟩
theorem lenPost_good {g : Nat} {s : ByteArray} {w : World} {k m : Nat} (h : RdAt w g s) (hk : k + 1 <= s.size) (hl : LenSpec s.data.toList m (decide (m <= (s.data.toList.drop (k + 1)).length)) (s.data.toList.drop (k + 1))) :
 LenPost g s w (.returned (.tuple #[.int .i64 m, .bool (decide (m <= s.size - (k + 1)))])) ((w.setCell ⟨g, 0, none⟩ (.string (s.extract (k + 1) s.size))).drew) := by
 refine ⟨_, _, s.extract (k + 1) s.size, rfl, rdAt_set h _, ?_, ((Tch.refl (fun k => k = g) w).setCell ⟨g, 0, none⟩ (fun _ => rfl) _).drew⟩
 rw [extract_toList]
 rw [List.length_drop, toList_size] at hl
 exact hl
theorem length_c (g : Nat) (s : ByteArray) (w : World) (hg : RdAt w g s) (hs : s.size <= 65536) :
 Calls Tryz.prog 133 #[.pointer (some ⟨g, 0, none⟩)] w (LenPost g s w) := by
 have hc0 : w.cell? ⟨g, 0, none⟩ = some (.string s) := by rw [cell_of hg]; rfl
 have hfz : w.frozen? ⟨g, 0, none⟩ = false := fr_of hg 0
 have hgH := lh hg
 obtain ⟨l, hl⟩ : ∃ l, l = s.data.toList := ⟨_, rfl⟩
 have hsl : l.length = s.size := by rw [hl]; exact toList_size s
 replace hl := lh hl
 obtain ⟨n, hn⟩ : ∃ n, n = s.size := ⟨_, rfl⟩
 rw [<- hn] at hsl hs
 have hsz : (s.size : Int) = (n : Int) := by omega
 replace hsl := lh hsl
 replace hn := lh hn
 clear hg
 go_enter Tryz.func133, Tryz.ntmps133
 go_wp2_with fail
 go_loopg [4, 5] n (fun g' v i W => ∃ k m : Nat, g' = n - k /\ v = .int .i64 m /\ i = .int .i64 k /\ LenInv l k m /\ W = w)
 case atStart => exact ⟨0, 0, rfl, rfl, rfl, lenInv_zero l, rfl⟩
 case round =>
  obtain ⟨k, m, hg', rfl, rfl, hI, rfl⟩ := hrel
  subst hg'
  have hkl := hI.1
  have hm := hI.2.2.1
  rw [hsl.out] at hkl
  have hIH := lh hI
  clear hI
  by_cases hkn : k < n
  . have hki : (k : Int) < (n : Int) := by omega
    have hix := fun (W : World) => str_idx (P := Tryz.prog) Tryz.underlying9 s k (by rw [<- hn.out]; exact hkn) W
    rw [<- hl.out] at hix
    have hat := lh (getD_some (l := l) (k := k) (by rw [hsl.out]; exact hkn))
    generalize l.getD k 0 = a at *
    obtain ⟨b, hb⟩ : ∃ b, b = a.toNat := ⟨_, rfl⟩
    have hb256 : b < 256 := by rw [hb]; exact a.toNat_lt
    rw [<- hb] at hix
    replace hb := lh hb
    have hki64 : (k : Int) <= 65536 := by omega
    by_cases hd : 48 <= b /\ b <= 57
    . obtain ⟨hd1, hd2⟩ := hd
      have hdH := lh (show isD a by unfold isD; rw [<- hb.out]; exact ⟨hd1, hd2⟩)
      have hstep := lh (show 10 * m + (b - 48) <= 65536 -> LenInv l (k + 1) (10 * m + (b - 48)) from fun h => by rw [hb.out] at h ⊢; exact lenInv_step hIH.out hat.out hdH.out h)
      have hbig := lh (show 65536 < 10 * m + (b - 48) -> LenSpec l 0 false l from fun h => by rw [hb.out] at h; exact len_big hIH.out hat.out hdH.out h 0)
      have g1 : (48 : Int) <= (b : Int) := by omega
      have g2 : (b : Int) <= 57 := by omega
      have gw : ((b : Int) - 48) % 256 = (b : Int) - 48 := by omega
      have gs : (((10 * m + (b - 48) : Nat)) : Int) = (m : Int) * 10 + ((b : Int) - 48) := by omega
      replace gs := lh gs
      by_cases hz : k = 0 /\ b = 48
      . obtain ⟨hk0, hb0⟩ := hz
        have gk : ((k : Int) == 0) = true := by rw [beq_iff_eq]; omega
        have gz : ((b : Int) == 48) = true := by rw [beq_iff_eq]; omega
        have hat0 := lh (show l[0]? = some 48 by have := hat.out; rw [hk0] at this; rw [this]; congr 1; exact UInt8.toNat_inj.1 (by rw [<- hb.out, hb0]; rfl))
        replace hb0 := lh hb0
        replace hk0 := lh hk0
        by_cases h2 : n < 2
        . have hsp := lh (len_zero hat0.out (by rw [List.getElem?_eq_none (by rw [hsl.out]; omega)]; simp) 0)
          have q2 : (n : Int) < 2 := by omega
          go_wp2_with fail
          go_ret2
          exact lenPost_same hgH.out (by rw [<- hl.out]; exact hsp.out)
        . have q2 : ¬ (n : Int) < 2 := by omega
          have h1s : 1 < s.size := by rw [<- hn.out]; omega
          obtain ⟨c, hc⟩ : ∃ c, c = s[1]'h1s := ⟨_, rfl⟩
          have hl1 : l[1]? = some c := by rw [hl.out, hc, Array.getElem?_toList, Array.getElem?_eq_getElem h1s]; rfl
          by_cases h58 : c = 58
          . have q58 : (((s[1]'h1s).toNat : Int) != 58) = false := by rw [<- hc, h58]; rfl
            have hmb : 10 * m + (b - 48) <= 65536 := by
             have := hIH.out.2.1
             rw [hk0.out] at this
             have e : val (l.take 0) = 0 := rfl
             have := hb0.out
             omega
            have q1 : ¬ (65536 : Int) < (m : Int) * 10 + ((b : Int) - 48) := by omega
            have hs1 := lh (hstep.out hmb)
            clear hmb hc hl1 h58
            go_wp2_with fail
            go_roundg (n - (k + 1))
            case measure => omega
            case rel => exact ⟨k + 1, _, rfl, by rw [gs.out], by go_num, hs1.out, rfl⟩
          . have q58 : (((s[1]'h1s).toNat : Int) != 58) = true := by
             rw [<- hc, bne_iff_ne]
             intro h
             exact h58 (UInt8.toNat_inj.1 (by have : ((58 : UInt8).toNat : Int) = 58 := rfl; omega))
            have hsp := lh (len_zero hat0.out (by rw [hl1]; simpa using h58) 0)
            clear hc hl1 h58
            go_wp2_with fail
            go_ret2
            exact lenPost_same hgH.out (by rw [<- hl.out]; exact hsp.out)
      . have gz2 : ((k : Int) == 0) = false \/ ((b : Int) == 48) = false := by
         by_cases h : k = 0
         . right; rw [beq_eq_false_iff_ne]; intro h2; exact hz ⟨h, by omega⟩
         . left; rw [beq_eq_false_iff_ne]; omega
        clear hz
        rcases gz2 with gz | gz
        . by_cases hbg : 65536 < 10 * m + (b - 48)
          . have hsp := lh (hbig.out hbg)
            have q1 : (65536 : Int) < (m : Int) * 10 + ((b : Int) - 48) := by omega
            clear hbg
            go_wp2_with fail
            go_ret2
            exact lenPost_same hgH.out (by rw [<- hl.out]; exact hsp.out)
          . have q1 : ¬ (65536 : Int) < (m : Int) * 10 + ((b : Int) - 48) := by omega
            have hs1 := lh (hstep.out (by omega))
            clear hbg
            go_wp2_with fail
            go_roundg (n - (k + 1))
            case measure => omega
            case rel => exact ⟨k + 1, _, rfl, by rw [gs.out], by go_num, hs1.out, rfl⟩
        . by_cases gk : ((k : Int) == 0) = true
          . by_cases hbg : 65536 < 10 * m + (b - 48)
            . have hsp := lh (hbig.out hbg)
              have q1 : (65536 : Int) < (m : Int) * 10 + ((b : Int) - 48) := by omega
              clear hbg
              go_wp2_with fail
              go_ret2
              exact lenPost_same hgH.out (by rw [<- hl.out]; exact hsp.out)
            . have q1 : ¬ (65536 : Int) < (m : Int) * 10 + ((b : Int) - 48) := by omega
              have hs1 := lh (hstep.out (by omega))
              clear hbg
              go_wp2_with fail
              go_roundg (n - (k + 1))
              case measure => omega
              case rel => exact ⟨k + 1, _, rfl, by rw [gs.out], by go_num, hs1.out, rfl⟩
          . replace gk : ((k : Int) == 0) = false := by simpa using gk
            by_cases hbg : 65536 < 10 * m + (b - 48)
            . have hsp := lh (hbig.out hbg)
              have q1 : (65536 : Int) < (m : Int) * 10 + ((b : Int) - 48) := by omega
              clear hbg
              go_wp2_with fail
              go_ret2
              exact lenPost_same hgH.out (by rw [<- hl.out]; exact hsp.out)
            . have q1 : ¬ (65536 : Int) < (m : Int) * 10 + ((b : Int) - 48) := by omega
              have hs1 := lh (hstep.out (by omega))
              clear hbg
              go_wp2_with fail
              go_roundg (n - (k + 1))
              case measure => omega
              case rel => exact ⟨k + 1, _, rfl, by rw [gs.out], by go_num, hs1.out, rfl⟩
    . have hdH := lh (show ¬ isD a by unfold isD; rw [<- hb.out]; exact hd)
      have gz : ((b : Int) == 48) = false := by rw [beq_eq_false_iff_ne]; omega
      have gd : (48 : Int) <= (b : Int) -> ¬ (b : Int) <= 57 := by omega
      by_cases hc58 : b = 58 /\ 0 < k
      . obtain ⟨hb58, hk0⟩ := hc58
        have ha58 := lh (show l[k]? = some 58 by rw [hat.out]; congr 1; exact UInt8.toNat_inj.1 (by rw [<- hb.out, hb58]; rfl))
        have hgood := lh (len_good hIH.out ha58.out)
        have q1 : ((b : Int) == 58) = true := by rw [beq_iff_eq]; omega
        have q2 : (48 : Int) <= (b : Int) := by omega
        have q3 : ¬ (b : Int) <= 57 := by omega
        have q4 : (0 : Int) < (k : Int) := by omega
        have q5 : (k : Int) + 1 <= (n : Int) := by omega
        clear gd hb58
        go_wp2_with fail
        go_region
        go_wp2_with fail
        go_ret2
        exact lenPost_good hgH.out (by omega) (by rw [<- hl.out]; exact hgood.out)
      . have hsp := lh (len_none hIH.out hat.out hdH.out (by rintro ⟨e, h⟩; exact hc58 ⟨by rw [hb.out, e]; rfl, h⟩) 0)
        have q4 : ((b : Int) == 58) = true -> ¬ (0 : Int) < (k : Int) := by intro h h2; rw [beq_iff_eq] at h; exact hc58 ⟨by omega, by omega⟩
        clear hc58
        by_cases q1 : (48 : Int) <= (b : Int)
        . have q3 := gd q1
          clear gd
          by_cases q5 : ((b : Int) == 58) = true
          . have q6 := q4 q5
            clear q4
            go_wp2_with fail
            all_goals (go_ret2; exact lenPost_same hgH.out (by rw [<- hl.out]; exact hsp.out))
          . replace q5 : ((b : Int) == 58) = false := by simpa using q5
            clear q4
            go_wp2_with fail
            all_goals (go_ret2; exact lenPost_same hgH.out (by rw [<- hl.out]; exact hsp.out))
        . have q5 : ((b : Int) == 58) = true \/ ((b : Int) == 58) = false := by cases h : ((b : Int) == 58) <;> simp
          clear gd
          rcases q5 with q5 | q5
          . have q6 := q4 q5
            clear q4
            go_wp2_with fail
            all_goals (go_ret2; exact lenPost_same hgH.out (by rw [<- hl.out]; exact hsp.out))
          . clear q4
            go_wp2_with fail
            all_goals (go_ret2; exact lenPost_same hgH.out (by rw [<- hl.out]; exact hsp.out))
  . have hkn' : k = n := by omega
    subst hkn'
    have hki : ¬ (k : Int) < (k : Int) := by omega
    go_wp2_with fail
    go_ret2
    exact lenPost_same hgH.out (by rw [<- hl.out]; exact len_over (by rw [hsl.out]; exact hIH.out) 0)
end Go.Proofs.YtbiioaggilaebaaGreatDoor.Tm
namespace Go.Proofs.YtbiioaggilaebaaGreatDoor.Tm
open Go Go.RowKit B Bld
theorem write_big (f : F) (c0 c1 c2 : Value) (w : World) (hf : FV w.heap.size w f [c0, c1, c2]) (hr : f.right = true) (hd : f.depth <= 8) (hlen : 65536 < f.bytes.length) (hmax : f.bytes.length <= 140000000000000) (htab : Tab w) (hgB : 2 < w.heap.size) :
 Calls Tryz.prog 45 #[.agg #[c0, c1, c2]] w fun ev w' => ev = .returned (.tuple #[.string ⟨#[]⟩, .iface 54 (.int .i64 2)]) /\ Below w.heap.size w w' := by
 obtain ⟨B, hB⟩ : ∃ B, B = w.heap.size := ⟨_, rfl⟩
 rw [<- hB] at hf hgB ⊢
 obtain ⟨w1, hw1⟩ : ∃ w1, w1 = w.alloc (.cells #[c0, c1, c2] 74) := ⟨_, rfl⟩
 obtain ⟨w2, hw2⟩ : ∃ w2, w2 = w1.alloc (.cells #[.pointer none, .slice none 0 0, .nilIface, .bool false] 129) := ⟨_, rfl⟩
 have hs1 : w1.heap.size = B + 1 := by rw [hw1, hB]; simp
 have hs2 : w2.heap.size = B + 2 := by rw [hw2]; simp [hs1]
 have hb1 : Below B w w1 := by rw [hw1]; exact (Below.refl _ _).alloc (by omega) _
 have hb2 : Below B w w2 := by rw [hw2]; exact hb1.alloc (by omega) _
 have hg : w2.heap[B + 1]? = some (.cells #[.pointer none, .slice none 0 0, .nilIface, .bool false] 129 (0, 0)) := by
  rw [hw2, <- hs1]; exact heap_alloc_at _ _
 have hat : WAt B (B + 1) [] .nilIface (.bool false) w2 := ⟨by omega, _, _, .inl rfl, hg, by
  refine ⟨by simp [bc], .inl ⟨rfl, rfl⟩⟩⟩
 have hP := put_anyG B (B + 1) .nilIface (.bool false) _ f (Nat.lt_succ_self _) hr [] 0 c0 c1 c2 w2 (FV.below hb2 _ _ hf) hat (htab.keep hb2 hgB) (by omega) hgB (by omega) (by simpa using hmax)
 have hov : 65536 < (wp f []).length := wp_over f [] (by simpa using hlen)
 have hup : (wp f []).length <= 140000000000000 := by have := (wp_len f []).2; simp at this; omega
 replace hP := lh hP
 have hb2H := lh hb2
 have hs2H := lh hs2
 have h1 : w2.heap[B]? = some (.cells #[c0, c1, c2] 74 (0, 0)) := by
  rw [hw2, heap_alloc_lt _ _ _ (by omega), hw1, hB]; exact heap_alloc_at _ _
 have hc0 : w2.cell? ⟨B, 0, none⟩ = some c0 := by rw [cell_of h1]; rfl
 have hc1 : w2.cell? ⟨B, 1, none⟩ = some c1 := by rw [cell_of h1]; rfl
 have hc2 : w2.cell? ⟨B, 2, none⟩ = some c2 := by rw [cell_of h1]; rfl
 generalize hbs : wp f [] = bs at *
 obtain ⟨fb, ft, fl⟩ := f
 unfold FV at hf
 obtain ⟨A, c, hcs, _⟩ := hf
 simp only [List.cons.injEq, and_true] at hcs
 obtain ⟨rfl, rfl, rfl⟩ := hcs
 have hlB : (65536 : Int) < (bs.length : Int) := by omega
 clear hov hup hlen hmax
 clear hat hg h1 hb1 hb2 hbs hr hd htab
 go_enter Tryz.func45, Tryz.ntmps45
 go_wp2_with fail
 rw [<- hB, <- hw1]
 try rw [hs1]
 rw [<- hw2]
 replace hB := lh hB
 replace hw1 := lh hw1
 replace hw2 := lh hw2
 clear hs1 hs2
 go_wp2_with fail
 refine (hP.out).mono ?_
 rintro ev w3 ⟨rfl, hw3, hb3, ho3⟩
 have hg3 := hw3
 obtain ⟨_, p, v, _, hg3, _⟩ := hg3
 have k2 : w3.cell? ⟨B + 1, 2, none⟩ = some .nilIface := by rw [cell_of hg3]; rfl
 have k3 : w3.cell? ⟨B + 1, 3, none⟩ = some (.bool false) := by rw [cell_of hg3]; rfl
 have hb3H := lh (hb2H.out.trans hb3)
 have hsz3 : B <= w3.heap.size := by have := hb3.size; have := hs2H.out; omega
 have CL := lh (fun (W : World) (hW : Below w3.heap.size w3 W) => len_any B (B + 1) bs .nilIface (.bool false) W (wat_tch hw3 hW))
 have hw3H := lh hw3
 clear hw3 hb3 hg3 hP
 go_wp2_with fail
 refine (CL.out w3 (Below.refl _ _)).mono ?_
 rintro ev w4 ⟨rfl, rfl⟩
 go_wp2_with fail
 go_ret2
 exact ⟨rfl, hb3H.out⟩
end Go.Proofs.YtbiioaggilaebaaGreatDoor.Tm
namespace Go.Proofs.YtbiioaggilaebaaGreatDoor.Ref
open Go.RowKit B
def ic (l : List Nat) : List Value := l.map fun x => .int .i64 ((x : Nat) : Int)
theorem ic_get (l : List Nat) (i : Nat) (h : i < l.length) : (ic l)[i]? = some (.int .i64 ((l.getD i 0 : Nat) : Int)) := by
 simp [ic, List.getD_eq_getElem?_getD, List.getElem?_eq_getElem h]
theorem ic_append (a b : List Nat) : ic (a ++ b) = ic a ++ ic b := List.map_append ..
def RowI (w : World) (v : Value) (l : List Nat) : Prop := ∃ g cap, v = .slice (some ⟨g, 0, none⟩) l.length cap /\ ∀ k, k < l.length -> w.cell? ⟨g, k, none⟩ = some (.int .i64 ((l.getD k 0 : Nat) : Int))
theorem infoInt : (Tryz.prog.info? 3).map (fun i => (i.zero, i.size, i.bytes)) = some (some (.int .i64 0), 1, 8) := by kernel_rfl
theorem own_cells {w : World} {base : Nat} {g cap : Nat} {l : List Nat} (h : w.ownsRow base 3 1 (.slice (some ⟨g, 0, none⟩) l.length cap) l.length (ic l)) :
 ∀ k, k < l.length -> w.cell? ⟨g, k, none⟩ = some (.int .i64 ((l.getD k 0 : Nat) : Int)) := by
 intro k hk
 rw [h.cellAt k (by omega), ic_get l k hk]
theorem any_next (l : List Nat) (k j : Nat) (h : j < l.length) : (l.take (j + 1)).any (fun d => k % d == 0) = ((l.take j).any (fun d => k % d == 0) || (k % l.getD j 0 == 0)) := by
 rw [List.take_add_one, List.any_append, List.getD_eq_getElem?_getD, List.getElem?_eq_getElem h]
 simp
theorem pst_app {w w0 w1 : World} {g cap t : Nat} {v : Value} (ho : w.ownsRow w0.heap.size 3 1 v (pst t).length (ic (pst t))) (ha : (pst t).any (fun d => (t + 2) % d == 0) = false) (ht : Tch (fun _ => False) w0 w)
 (o : Obj) (h1 : w1.ownsRow w0.heap.size 3 1 (.slice (some ⟨g, 0, none⟩) ((pst t).length + 1) cap) ((pst t).length + 1) (ic (pst t) ++ [.int .i64 ((t : Int) + 2)])) (h2 : (w.alloc o).grownBy w1 v.ownBlock) :
 w1.ownsRow w0.heap.size 3 1 (.slice (some ⟨g, 0, none⟩) ((pst t).length + 1) cap) (pst (t + 1)).length (ic (pst (t + 1))) /\ Tch (fun _ => False) w0 w1 := by
 have e : pst (t + 1) = pst t ++ [t + 2] := by rw [pst, pstep, if_neg (by rw [ha]; decide)]
 rw [e, List.length_append, ic_append]
 exact ⟨h1, own_tch (ht.alloc _) (ho.alloc _) (Nat.le_refl _) h2⟩
theorem primes_any (n T : Nat) (hn : 1 <= n) (hn1 : n <= 100) (hT : T <= 400) (h1 : ∀ t, t < T -> (pst t).length < n) (h2 : (pst T).length = n) (w : World) :
 Calls Tryz.prog 130 #[.int .i64 (n : Int)] w fun e w' => ∃ v, e = .returned v /\ RowI w' v (pst T) /\ Tch (fun _ => False) w w' := by
 obtain ⟨i3, hi3, hz3, hs3, hb3⟩ := info_parts infoInt
 have h1H := lh h1
 have h2H := lh h2
 have hst := lh (show w.ownsRow w.heap.size 3 1 (.slice none 0 0) (pst 0).length (ic (pst 0)) from ⟨rfl, .inl ⟨rfl, rfl⟩⟩)
 clear h1 h2
 go_enter Tryz.func130, Tryz.ntmps130
 go_wp2_with fail
 go_loopg [3, 4] T (fun g v kv W => ∃ t : Nat, g = T - t /\ t <= T /\ kv = .int .i64 ((t : Int) + 2) /\ W.ownsRow w.heap.size 3 1 v (pst t).length (ic (pst t)) /\ Tch (fun _ => False) w W)
 case atStart => exact ⟨0, rfl, by omega, rfl, hst.out, Tch.refl _ _⟩
 case round =>
  clear hst
  obtain ⟨t, hg, ht, rfl, ho, htc⟩ := hrel
  subst hg
  by_cases htl : t < T
  . have hlt := h1H.out t htl
    have hlti : ((pst t).length : Int) < (n : Int) := by omega
    have hti : (t : Int) < 400 := by omega
    have hsm := lh (pst_small t)
    have hoH := lh ho
    have htcH := lh htc
    rcases ho.2 with ⟨hv, hl0⟩ | ⟨gv, cv, cur, hv, _, _, _, _, _, _⟩
    . subst hv
      clear htc
      have hap := lh (fun g cap w1 o ha h1 h2 => pst_app (w1 := w1) (g := g) (cap := cap) hoH.out ha htcH.out o h1 h2)
      have hownH := hoH
      have hlti' : (0 : Int) < (n : Int) := by omega
      replace hl0 := lh hl0
      clear hlti
      clear ho
      go_wp2_with fail
      go_loopg [5, 6] (pst t).length (fun g iv jv W => ∃ j : Nat, g = (pst t).length - j /\ j <= (pst t).length /\ iv = .bool (!((pst t).take j).any (fun d => (t + 2) % d == 0)) /\ jv = .int .i64 j /\ W = wr)
      case atStart => exact ⟨0, rfl, by omega, rfl, rfl, rfl⟩
      case round =>
       obtain ⟨j, hgj, hj, rfl, rfl, rfl⟩ := hrel
       subst hgj
       by_cases hjl : j < (pst t).length
       . exact absurd hjl (by have := hl0.out; omega)
       . have hje : j = (pst t).length := by omega
         subst hje
         rw [List.take_of_length_le (Nat.le_refl _)]
         cases hA : (pst t).any (fun d => (t + 2) % d == 0)
         . have hap2 := lh (fun g cap w1 o h1 h2 => hap.out g cap w1 o hA h1 h2)
           clear hA
           go_wp2_with (at_builtin; refine wpList_append_lies _ (by rfl) _ _ _ (by rfl) w.heap.size 3 i3 _ 1 8 Tryz.underlying193 hi3 hz3 hs3 hb3 rfl (by omega) (.slice none 0 0) (pst t).length _ (by rfl) (hownH.out.alloc _) ⟨wr.heap.size, 0, none⟩ 1 1 [.int .i64 ((t : Int) + 2)] (by rfl) (by rfl) (World.news_of_block (heap_alloc_at wr _)) (by simp [Value.oneCell']) (by omega) (by unfold maxLen; omega) (by omega) (by simp; have := htcH.out.size; omega) (wr.heap.size + 1) (by simp) ?_; intro g cap w1 hown1 hgrow hat hlt)
           go_roundg (T - (t + 1))
           case measure => omega
           case rel => exact ⟨t + 1, rfl, by omega, by go_num, hap2.out _ _ _ _ hown1 hgrow⟩
         . have e := lh (show pst (t + 1) = pst t from by rw [pst, pstep, if_pos hA])
           clear hA
           go_wp2_with fail
           go_roundg (T - (t + 1))
           case measure => omega
           case rel => exact ⟨t + 1, rfl, by omega, by go_num, by rw [e.out]; exact hownH.out, htcH.out⟩
    . subst hv
      clear htc
      have hap := lh (fun g cap w1 o ha h1 h2 => pst_app (w1 := w1) (g := g) (cap := cap) hoH.out ha htcH.out o h1 h2)
      have hownH := hoH
      have hcs := lh (own_cells ho)
      clear ho
      go_wp2_with fail
      go_loopg [5, 6] (pst t).length (fun g iv jv W => ∃ j : Nat, g = (pst t).length - j /\ j <= (pst t).length /\ iv = .bool (!((pst t).take j).any (fun d => (t + 2) % d == 0)) /\ jv = .int .i64 j /\ W = wr)
      case atStart => exact ⟨0, rfl, by omega, rfl, rfl, rfl⟩
      case round =>
       obtain ⟨j, hgj, hj, rfl, rfl, rfl⟩ := hrel
       subst hgj
       by_cases hjl : j < (pst t).length
       . have hc := hcs.out j hjl
         have hd := hsm.out ((pst t).getD j 0) (by rw [List.getD_eq_getElem?_getD, List.getElem?_eq_getElem hjl]; exact List.getElem_mem hjl)
         have hnx := lh (any_next (pst t) (t + 2) j hjl)
         have hjli : (j : Int) < ((pst t).length : Int) := by omega
         generalize hdd : (pst t).getD j 0 = d at *
         have hd2 : (2 : Int) <= (d : Int) := by omega
         have hd3 : (d : Int) < 402 := by omega
         have hmod : ((t : Int) + 2) % (d : Int) = (((t + 2) % d : Nat) : Int) := (Int.natCast_emod (t + 2) d).symm
         clear hdd
         generalize hA : ((pst t).take j).any (fun d => (t + 2) % d == 0) = A at *
         by_cases hz : (t + 2) % d = 0
         . have hz0 : ((t : Int) + 2) % (d : Int) = 0 := by omega
           replace hz := lh hz
           clear hmod hA
           go_wp2_with fail
           go_roundg ((pst t).length - (j + 1))
           case measure => omega
           case rel => exact ⟨j + 1, rfl, by omega, by rw [hnx.out, hz.out]; simp, by go_num, rfl⟩
         . have hz0 : ¬ ((t : Int) + 2) % (d : Int) = 0 := by omega
           replace hz := lh hz
           clear hmod hA
           go_wp2_with fail
           go_roundg ((pst t).length - (j + 1))
           case measure => omega
           case rel => exact ⟨j + 1, rfl, by omega, by rw [hnx.out, beq_eq_false_iff_ne.2 hz.out]; simp, by go_num, rfl⟩
       . have hje : j = (pst t).length := by omega
         subst hje
         rw [List.take_of_length_le (Nat.le_refl _)]
         cases hA : (pst t).any (fun d => (t + 2) % d == 0)
         . have hap2 := lh (fun g cap w1 o h1 h2 => hap.out g cap w1 o hA h1 h2)
           clear hA
           go_wp2_with (at_builtin; refine wpList_append_lies _ (by rfl) _ _ _ (by rfl) w.heap.size 3 i3 _ 1 8 Tryz.underlying193 hi3 hz3 hs3 hb3 rfl (by omega) (.slice (some ⟨gv, 0, none⟩) (pst t).length cv) (pst t).length _ (by rfl) (hownH.out.alloc _) ⟨wr.heap.size, 0, none⟩ 1 1 [.int .i64 ((t : Int) + 2)] (by rfl) (by rfl) (World.news_of_block (heap_alloc_at wr _)) (by simp [Value.oneCell']) (by omega) (by unfold maxLen; omega) (by omega) (by simp; have := htcH.out.size; omega) (wr.heap.size + 1) (by simp) ?_; intro g cap w1 hown1 hgrow hat hlt)
           go_roundg (T - (t + 1))
           case measure => omega
           case rel => exact ⟨t + 1, rfl, by omega, by go_num, hap2.out _ _ _ _ hown1 hgrow⟩
         . have e := lh (show pst (t + 1) = pst t from by rw [pst, pstep, if_pos hA])
           clear hA
           go_wp2_with fail
           go_roundg (T - (t + 1))
           case measure => omega
           case rel => exact ⟨t + 1, rfl, by omega, by go_num, by rw [e.out]; exact hownH.out, htcH.out⟩
  . obtain rfl : t = T := by omega
    have hli := h2H.out
    have hlin : ((pst t).length : Int) = (n : Int) := by omega
    rcases ho.2 with ⟨hv, hl0⟩ | ⟨gv, cv, cur, hv, _, _, _, _, _, _⟩
    . omega
    . subst hv
      have hcs := lh (own_cells ho)
      replace htc := lh htc
      clear ho
      have hlf : ¬ ((pst t).length : Int) < (n : Int) := by omega
      clear hlin
      replace hli := lh hli
      go_wp2_with fail
      go_ret
      exact ⟨_, rfl, ⟨gv, cv, rfl, hcs.out⟩, htc.out⟩
end Go.Proofs.YtbiioaggilaebaaGreatDoor.Ref
