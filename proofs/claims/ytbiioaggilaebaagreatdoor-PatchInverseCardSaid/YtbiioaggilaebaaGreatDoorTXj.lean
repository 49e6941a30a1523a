/- What LawPatchInverse lean on, part j of 29: the texts TmX, RefD, Fork, ShaS, TmZ. -/
import Derived.Test.YtbiioaggilaebaaGreatDoorTX0
import Derived.Test.YtbiioaggilaebaaGreatDoorTXf
import Derived.Test.YtbiioaggilaebaaGreatDoorTXg
import Derived.Test.YtbiioaggilaebaaGreatDoorTXh
import Derived.Test.YtbiioaggilaebaaGreatDoorTXi
import Derived.Deep.AppendLies
import Derived.OwnWalk
import Derived.Handy
import Derived.Laws.Rows
set_option linter.all false
set_option maxRecDepth 100000
set_option maxHeartbeats 16000000
namespace Go.Proofs.YtbiioaggilaebaaGreatDoor.Tm
open Go Go.RowKit B Bld
theorem form_ne (f : F) (h : f.right = true) : f.bytes ≠ [] := by
 obtain ⟨c, r, e, _⟩ := form_head f h
 rw [e]; simp
theorem write_any (f : F) (c0 c1 c2 : Value) (w : World) (hf : FV w.heap.size w f [c0, c1, c2]) (hr : f.right = true) (hd : f.depth <= 8) (hlen : f.bytes.length <= 65536) (htab : Tab w) (hgB : 2 < w.heap.size) :
 Calls Tryz.prog 45 #[.agg #[c0, c1, c2]] w fun ev w' => ev = .returned (.tuple #[.string ⟨f.bytes.toArray⟩, .nilIface]) /\ Below w.heap.size w w' := by
 obtain ⟨B, hB⟩ : ∃ B, B = w.heap.size := ⟨_, rfl⟩
 rw [<- hB] at hf hgB ⊢
 obtain ⟨w1, hw1⟩ : ∃ w1, w1 = w.alloc (.cells #[c0, c1, c2] 74) := ⟨_, rfl⟩
 obtain ⟨w2, hw2⟩ : ∃ w2, w2 = w1.alloc (.cells #[.pointer none, .slice none 0 0, .nilIface, .bool false] 129) := ⟨_, rfl⟩
 have hs1 : w1.heap.size = B + 1 := by rw [hw1, hB]; simp
 have hs2 : w2.heap.size = B + 2 := by rw [hw2]; simp [hs1]
 have hb1 : Below B w w1 := by rw [hw1]; exact (Below.refl _ _).alloc (by omega) _
 have hb2 : Below B w w2 := by rw [hw2]; exact hb1.alloc (by omega) _
 have hg : w2.heap[B + 1]? = some (.cells #[.pointer none, .slice none 0 0, .nilIface, .bool false] 129 (0, 0)) := by
  rw [hw2, <- hs1]; exact heap_alloc_at _ _
 have hat : WAt B (B + 1) [] .nilIface (.bool false) w2 := ⟨by omega, _, _, .inl rfl, hg, by
  refine ⟨by simp [bc], .inl ⟨rfl, rfl⟩⟩⟩
 have hP := put_any B (B + 1) .nilIface (.bool false) _ f (Nat.lt_succ_self _) hr [] 0 c0 c1 c2 w2 (FV.below hb2 _ _ hf) hat (htab.keep hb2 hgB) (by omega) hgB (by omega) (by simpa using hlen)
 rw [List.nil_append] at hP
 replace hP := lh hP
 have hne := form_ne f hr
 have hb2H := lh hb2
 have hs2H := lh hs2
 have h1 : w2.heap[B]? = some (.cells #[c0, c1, c2] 74 (0, 0)) := by
  rw [hw2, heap_alloc_lt _ _ _ (by omega), hw1, hB]; exact heap_alloc_at _ _
 have hc0 : w2.cell? ⟨B, 0, none⟩ = some c0 := by rw [cell_of h1]; rfl
 have hc1 : w2.cell? ⟨B, 1, none⟩ = some c1 := by rw [cell_of h1]; rfl
 have hc2 : w2.cell? ⟨B, 2, none⟩ = some c2 := by rw [cell_of h1]; rfl
 generalize hbs : f.bytes = bs at *
 obtain ⟨fb, ft, fl⟩ := f
 unfold FV at hf
 obtain ⟨A, c, hcs, _⟩ := hf
 simp only [List.cons.injEq, and_true] at hcs
 obtain ⟨rfl, rfl, rfl⟩ := hcs
 have hlB : ¬ (65536 : Int) < (bs.length : Int) := by omega
 clear hat hg h1 hb1 hb2 hbs hr hd htab
 go_enter Tryz.func45, Tryz.ntmps45
 go_wp2_with fail
 rw [<- hB, <- hw1]
 try rw [hs1]
 rw [<- hw2]
 replace hB := lh hB
 replace hw1 := lh hw1
 replace hw2 := lh hw2
 clear hs1 hs2
 go_wp2_with fail
 refine (hP.out).mono ?_
 rintro ev w3 ⟨rfl, hw3, hb3, ho3⟩
 have hg3 := hw3
 obtain ⟨_, p, v, _, hg3, _⟩ := hg3
 have k2 : w3.cell? ⟨B + 1, 2, none⟩ = some .nilIface := by rw [cell_of hg3]; rfl
 have k3 : w3.cell? ⟨B + 1, 3, none⟩ = some (.bool false) := by rw [cell_of hg3]; rfl
 have hb3H := lh (hb2H.out.trans hb3)
 have hsz3 : B <= w3.heap.size := by have := hb3.size; have := hs2H.out; omega
 have CL := lh (fun (W : World) (hW : Below w3.heap.size w3 W) => len_any B (B + 1) bs .nilIface (.bool false) W (wat_tch hw3 hW))
 have CT := lh (fun (W : World) (hW : Below w3.heap.size w3 W) => text_any B (B + 1) bs .nilIface (.bool false) W (wat_tch hw3 hW) hne)
 have hw3H := lh hw3
 clear hw3 hb3 hg3 hP
 go_wp2_with fail
 refine (CL.out w3 (Below.refl _ _)).mono ?_
 rintro ev w4 ⟨rfl, rfl⟩
 go_wp2_with fail
 refine (CT.out _ (Below.refl _ _)).mono ?_
 rintro ev w5 ⟨rfl, hb5⟩
 replace hb5 := lh (hb3H.out.trans hb5)
 go_wp2_with fail
 go_ret2
 exact ⟨rfl, hb5.out⟩
end Go.Proofs.YtbiioaggilaebaaGreatDoor.Tm
namespace Go.Proofs.YtbiioaggilaebaaGreatDoor.Ref
open Go.RowKit B
def bis (p q : Nat) : Nat -> Nat
 | 0 => 0
 | t + 1 => if ab (bis p q t + 2 ^ (39 - t)) q p then bis p q t else bis p q t + 2 ^ (39 - t)
def rootN (p q : Nat) : Nat := bis p q 40 % 4294967296
theorem pow_half (t : Nat) (h : t < 40) : 2 ^ (40 - t) = 2 * 2 ^ (39 - t) := by
 rw [show 40 - t = (39 - t) + 1 from by omega, Nat.pow_succ, Nat.mul_comm]
theorem bis_le (p q : Nat) : ∀ t, t <= 40 -> bis p q t + 2 ^ (40 - t) <= 1099511627776
 | 0, _ => by simp [bis]
 | t + 1, h => by
  have ih := bis_le p q t (by omega)
  rw [pow_half t (by omega)] at ih
  rw [bis, show 40 - (t + 1) = 39 - t from by omega]
  split <;> omega
theorem root_any (p q : Nat) (hq1 : 1 <= q) (hq : q <= 3) (hp : p < 1000) (w : World) :
 Calls Tryz.prog 131 #[.int .i64 (p : Int), .int .i64 (q : Int)] w fun e w' => e = .returned (.int .u32 ((rootN p q : Nat) : Int)) /\ Tch (fun _ => False) w w' := by
 go_enter Tryz.func131, Tryz.ntmps131
 go_wp2_with fail
 go_loopg [5, 6] 40 (fun g lv hv W => ∃ t lo hi : Nat, g = 40 - t /\ t <= 40 /\ lv = .int .u64 lo /\ hv = .int .u64 hi /\ lo = bis p q t /\ hi = bis p q t + 2 ^ (40 - t) /\ Tch (fun _ => False) w W)
 case atStart => exact ⟨0, 0, 1099511627776, rfl, by omega, rfl, rfl, rfl, by simp [bis], Tch.refl _ _⟩
 case round =>
  obtain ⟨t, lo, hi, hg, ht, rfl, rfl, hlo, hhi, htc⟩ := hrel
  subst hg
  have hb := bis_le p q t ht
  by_cases htl : t < 40
  . rw [pow_half t htl] at hb hhi
    have hw1 : 1 <= 2 ^ (39 - t) := Nat.one_le_two_pow
    have hC := lh (fun W => above_any ((lo + hi) / 2) q p (by omega) hq1 hq hp W)
    have hmid : (lo + hi) / 2 = bis p q t + 2 ^ (39 - t) := by omega
    rw [show (((lo + hi) / 2 : Nat) : Int) = ((lo : Int) + (hi : Int)) / 2 from by omega] at hC
    have h1 : (1 : Int) < (hi : Int) - (lo : Int) := by omega
    have h2 : (hi : Int) <= 1099511627776 := by omega
    have h3 : (lo : Int) < (hi : Int) := by omega
    have hmidi : ((lo : Int) + (hi : Int)) / 2 = ((bis p q t + 2 ^ (39 - t) : Nat) : Int) := by omega
    replace hlo := lh hlo
    replace hhi := lh hhi
    have hmH := lh hmid
    replace hmidi := lh hmidi
    replace htc := lh htc
    clear hb hmid hw1
    cases hab : ab ((lo + hi) / 2) q p
    . have habH := lh hab
      rw [hab] at hC
      clear hab
      go_wp2_with (go_at_call 153; refine (hC.out _).mono ?_; rintro e w1 ⟨rfl, h⟩; have h := lh h)
      go_roundg (40 - (t + 1))
      case measure => omega
      case rel =>
       exact ⟨t + 1, bis p q t + 2 ^ (39 - t), hi, rfl, by omega, congrArg (Value.int .u64) hmidi.out, rfl, by rw [bis, if_neg (by rw [<- hmH.out, habH.out]; decide)], by
        rw [bis, if_neg (by rw [<- hmH.out, habH.out]; decide), show 40 - (t + 1) = 39 - t from by omega, hhi.out]; omega, htc.out.trans h.out⟩
    . have habH := lh hab
      rw [hab] at hC
      clear hab
      go_wp2_with (go_at_call 153; refine (hC.out _).mono ?_; rintro e w1 ⟨rfl, h⟩; have h := lh h)
      go_roundg (40 - (t + 1))
      case measure => omega
      case rel =>
       exact ⟨t + 1, lo, bis p q t + 2 ^ (39 - t), rfl, by omega, rfl, congrArg (Value.int .u64) hmidi.out, by rw [bis, if_pos (by rw [<- hmH.out, habH.out])]; exact hlo.out, by
        rw [bis, if_pos (by rw [<- hmH.out, habH.out]), show 40 - (t + 1) = 39 - t from by omega], htc.out.trans h.out⟩
  . obtain rfl : t = 40 := by omega
    have hhl : hi = lo + 1 := by rw [hhi, hlo]
    have h1 : ¬ (1 : Int) < (hi : Int) - (lo : Int) := by omega
    have h2 : (hi : Int) <= 1099511627776 := by omega
    have h3 : (lo : Int) < (hi : Int) := by omega
    have hres := lh (show rootN p q = lo % 4294967296 from by rw [hlo]; rfl)
    replace htc := lh htc
    clear hb hhl hlo hhi
    go_wp2_with fail
    go_ret
    refine ⟨?_, htc.out⟩
    rw [hres.out]
    rw [show ((lo % 4294967296 : Nat) : Int) = (lo : Int) % 4294967296 from by omega]
    rfl
end Go.Proofs.YtbiioaggilaebaaGreatDoor.Ref
namespace Go.Proofs.YtbiioaggilaebaaGreatDoor.B
open Go Go.RowKit
section
variable {P : Program} {ops : Array Oper} {md : Region.Mode}
inductive Tr where
 | done
 | mem (ks : List Nat) (r : Tr)
 | pure (ks : List Nat) (r : Tr)
 | keep (k : Nat) (r : Tr)
 | last (k : Nat) (r : Tr)
 | fork (k : Nat) (r : Tr) (k' : Nat) (r' : Tr)
def wpTr (P : Program) (l : List Oper) (S : World -> Prop) (Q : Exit -> Act -> World -> Prop) : Tr -> Act -> World -> Prop
 | .done, a, w => Q .normal a w
 | .mem ks r, a, w => wpQuiet P l.toArray (InC S) (fun a' => wpTr P l S Q r a' w) (pick l ks) a
 | .pure ks r, a, w => wpQuiet P l.toArray (InC fun _ => True) (fun a' => wpTr P l S Q r a' w) (pick l ks) a
 | .keep k r, a, w => wpList P l.toArray (stepPost Q (fun a' w' => S w' /\ wpTr P l S Q r a' w')) (pick l [k]) a w
 | .last k r, a, w => wpList P l.toArray (stepPost Q (fun a' w' => wpTr P l S Q r a' w')) (pick l [k]) a w
 | .fork k r k' r', a, w => wpList P l.toArray (stepPost Q (fun a' w' => S w' /\ wpTr P l S Q r a' w')) (pick l [k]) a w /\ wpList P l.toArray (stepPost Q (fun a' w' => S w' /\ wpTr P l S Q r' a' w')) (pick l [k']) a w
def hasMemT : Tr -> Bool
 | .done => false
 | .mem _ _ => true
 | .pure _ r => hasMemT r
 | .keep _ r => hasMemT r
 | .last _ r => hasMemT r
 | .fork _ r _ r' => hasMemT r || hasMemT r'
def sizeT : Tr -> Nat
 | .done => 0
 | .mem ks r => ks.length + sizeT r
 | .pure ks r => ks.length + sizeT r
 | .keep _ r => sizeT r + 1
 | .last _ r => sizeT r + 1
 | .fork _ r _ _ => sizeT r + 1
def picksT (l : List Oper) : Tr -> Bool
 | .done => true
 | .mem ks r => pickB l ks && picksT l r
 | .pure ks r => pickB l ks && picksT l r
 | .keep k r => pickB l [k] && picksT l r
 | .last k r => pickB l [k] && picksT l r
 | .fork k r k' r' => (pickB l [k] && picksT l r) && (pickB l [k'] && picksT l r')
def mixT (md : Region.Mode) (ops : Array Oper) (ms : List Nat) : Tr -> Array Bool -> Bool
 | .done, listed => (Region.ready md ops listed).isEmpty
 | .mem ks r, listed => takeB md ops (fun i _ => ms.contains i) (mixT md ops ms r) ks listed
 | .pure ks r, listed => takeB md ops (fun _ _ => true) (mixT md ops ms r) ks listed
 | .keep k r, listed => decide (Region.ready md ops listed = [k]) && mixT md ops ms r (listed.setIfInBounds k true)
 | .last k r, listed => decide (Region.ready md ops listed = [k]) && !askS md ops ms k && !hasMemT r && mixT md ops ms r (listed.setIfInBounds k true)
 | .fork k r k' r', listed => decide (Region.ready md ops listed = [k, k']) && decide (sizeT r = sizeT r') && mixT md ops ms r (listed.setIfInBounds k true) && mixT md ops ms r' (listed.setIfInBounds k' true)
theorem tr_sound {l : List Oper} {S : World -> Prop} {Q : Exit -> Act -> World -> Prop} {ms : List Nat} (hsel : Region.noSelect l.toArray = true) :
 ∀ (t : Tr) (listed : Array Bool) (a : Act) (w : World), (hasMemT t = true -> S w) -> picksT l t = true -> Clo .any l.toArray listed -> mixT .any l.toArray ms t listed = true -> wpTr P l S Q t a w ->
 wpAnyM P .any l.toArray S Q ms (sizeT t) listed a w
 | .done, listed, a, w, _, _, inv, hB, h => ⟨by simpa [mixT] using hB, h⟩
 | .mem ks r, listed, a, w, hS, hp, inv, hB, h => by
  simp only [picksT, Bool.and_eq_true] at hp
  refine take_sound (C := InC S) hsel (fun i _ => ms.contains i) (fun i o hm => .inr ⟨fun w hw => ?_, fun w hw => ⟨⟨w, hw⟩, rfl⟩, hm⟩) ⟨⟨w, hS rfl⟩, rfl⟩ (mixT .any l.toArray ms r) (sizeT r) (fun listed a inv hb hk => tr_sound hsel r listed a w (fun _ => hS rfl) hp.2 inv hb hk) ks (pick l ks) listed a (pick_map l ks hp.1) inv hB h
  obtain ⟨x, rfl⟩ := hw
  exact x.mem
 | .pure ks r, listed, a, w, hS, hp, inv, hB, h => by
  simp only [picksT, Bool.and_eq_true] at hp
  exact take_sound (C := InC fun _ => True) hsel (fun _ _ => true) (fun i o _ => .inl fun w => ⟨⟨w, trivial⟩, rfl⟩) ⟨⟨w, trivial⟩, rfl⟩ (mixT .any l.toArray ms r) (sizeT r) (fun listed a inv hb hk => tr_sound hsel r listed a w hS hp.2 inv hb hk) ks (pick l ks) listed a (pick_map l ks hp.1) inv hB h
 | .keep k r, listed, a, w, hS, hp, inv, hB, h => by
  simp only [picksT, Bool.and_eq_true] at hp
  simp only [mixT, Bool.and_eq_true, decide_eq_true_eq] at hB
  have hm := pick_map l [k] hp.1
  refine ⟨by rw [hB.1]; simp, fun i hi => ?_⟩
  rw [hB.1] at hi
  obtain rfl : i = k := by simpa using hi
  have hr' : i ∈ Region.ready .any l.toArray listed := by rw [hB.1]; simp
  simp only [pick, List.map_cons, List.map_nil, List.cons.injEq, and_true] at hm
  exact wpOp_mono (fun a' w' hh => ⟨fun _ _ => hh.1, tr_sound hsel r _ a' w' (fun _ => hh.1) hp.2 (inv.set hr') hB.2 hh.2⟩) (wpOp_of_list hm.symm h)
 | .last k r, listed, a, w, hS, hp, inv, hB, h => by
  simp only [picksT, Bool.and_eq_true] at hp
  simp only [mixT, Bool.and_eq_true, decide_eq_true_eq, Bool.not_eq_true'] at hB
  have hm := pick_map l [k] hp.1
  refine ⟨by rw [hB.1.1.1]; simp, fun i hi => ?_⟩
  rw [hB.1.1.1] at hi
  obtain rfl : i = k := by simpa using hi
  have hr' : i ∈ Region.ready .any l.toArray listed := by rw [hB.1.1.1]; simp
  simp only [pick, List.map_cons, List.map_nil, List.cons.injEq, and_true] at hm
  exact wpOp_mono (fun a' w' hh => ⟨fun e => by (rw [hB.1.1.2] at e; cases e), tr_sound hsel r _ a' w' (fun e => by (rw [hB.1.2] at e; cases e)) hp.2 (inv.set hr') hB.2 hh⟩) (wpOp_of_list hm.symm h)
 | .fork k r k' r', listed, a, w, hS, hp, inv, hB, h => by
  simp only [picksT, Bool.and_eq_true] at hp
  simp only [mixT, Bool.and_eq_true, decide_eq_true_eq] at hB
  obtain ⟨⟨⟨hB1, hB2⟩, hB3⟩, hB4⟩ := hB
  have hm := pick_map l [k] hp.1.1
  have hm' := pick_map l [k'] hp.2.1
  refine ⟨by rw [hB1]; simp, fun i hi => ?_⟩
  have hr' := hi
  rw [hB1] at hi
  simp only [pick, List.map_cons, List.map_nil, List.cons.injEq, and_true] at hm hm'
  simp only [List.mem_cons, List.not_mem_nil, or_false] at hi
  rcases hi with rfl | rfl
  . exact wpOp_mono (fun a' w' hh => ⟨fun _ _ => hh.1, tr_sound hsel r _ a' w' (fun _ => hh.1) hp.1.2 (inv.set hr') hB3 hh.2⟩) (wpOp_of_list hm.symm h.1)
  . refine wpOp_mono (fun a' w' hh => ⟨fun _ _ => hh.1, ?_⟩) (wpOp_of_list hm'.symm h.2)
    rw [hB2]
    exact tr_sound hsel r' _ a' w' (fun _ => hh.1) hp.2.2 (inv.set hr') hB4 hh.2
def allT (l : List Oper) (ms : List Nat) (t : Tr) : Bool :=
 Region.noSelect l.toArray && decide (sizeT t = l.toArray.size) && picksT l t && mixT .any l.toArray ms t (Array.replicate l.toArray.size false)
theorem wp_region_tree {id : Nat} {Q : Exit -> Act -> World -> Prop} {a : Act} {w : World} {l : List Oper} (S : World -> Prop) (ms : List Nat) (t : Tr)
 (hm : P.follows .mixedOrders = true) (hB : allT l ms t = true) (hS : S w.drew) (h : wpTr P l S Q t a w.drew) : (Code.region id l.toArray true).wp P Q a w := by
 simp only [allT, Bool.and_eq_true, decide_eq_true_eq] at hB
 obtain ⟨⟨⟨hsel, hlen⟩, hp⟩, hb⟩ := hB
 have inv0 : Clo .any l.toArray (Array.replicate l.toArray.size false) := ⟨by simp, fun j oj _ hl => (by rw [getD_replicate_false] at hl; cases hl)⟩
 have H := tr_sound (P := P) (Q := Q) hsel t _ a w.drew (fun _ => hS) hp inv0 hb h
 rw [hlen] at H
 refine wp_region_noPanic ?_
 exact wp_region_any hm (wpAny_of_M _ _ _ _ H)
end
end Go.Proofs.YtbiioaggilaebaaGreatDoor.B
namespace Go.Proofs.YtbiioaggilaebaaGreatDoor.Sha
open Go.RowKit B
def Mem (w0 w : World) (hs : List W) : Prop := hs.length = 8 /\ St w w0.heap.size hs /\ Tch (fun _ => False) w0 w
def Rest1 (s b : ByteArray) (hs : List W) : Prop := b.size <= s.size /\ b.size % 64 = s.size % 64 /\ ∀ tail, runs K hs (b.data.toList ++ tail) = runs K H0 (s.data.toList ++ tail)
def Rest2 (T : List W) (b : ByteArray) (hs : List W) : Prop := b.size % 64 = 0 /\ runs K hs b.data.toList = T
theorem block_list (hb : Nat) (hs : List W) (hl : hs.length = 8) (b : ByteArray) (hbl : b.size = 64) (w : World) (hSt : St w hb hs) :
 Calls Tryz.prog 111 #[.pointer (some ⟨hb, 0, none⟩), .string b] w fun e w' => e = .returned (.tuple #[]) /\ St w' hb (compress K hs (words b.data.toList)) /\ Tch (· = hb) w w' := by
 obtain ⟨y0, y1, y2, y3, y4, y5, y6, y7, rfl⟩ := eight hl
 exact block_any hb _ _ _ _ _ _ _ _ b hbl w hSt
theorem mem_start (w : World) : Mem w (w.alloc (.cells (ucells H0) 181)) H0 := ⟨rfl, heap_alloc_at _ _, (Tch.refl _ _).alloc _⟩
theorem mem_next {w0 w w' : World} {hs hs' : List W} (h : Mem w0 w hs) (hl : hs'.length = 8) (h1 : St w' w0.heap.size hs') (h2 : Tch (· = w0.heap.size) w w') : Mem w0 w' hs' := by
 obtain ⟨_, _, c⟩ := h
 exact ⟨hl, h1, h2.os.trans c.os, h2.tape.trans c.tape, h2.output.trans c.output, Nat.le_trans c.size h2.size, fun k hk _ => (h2.block k (Nat.lt_of_lt_of_le hk c.size) (show ¬ k = _ from by omega)).trans (c.block k hk id)⟩
theorem ext_lo (b : ByteArray) (h : 64 <= b.size) : (b.extract 0 64).size = 64 := by rw [ByteArray.size_extract]; omega
theorem ext_hi (b : ByteArray) : (b.extract 64 b.size).size = b.size - 64 := by rw [ByteArray.size_extract]; omega
theorem ext_lo_list (b : ByteArray) : (b.extract 0 64).data.toList = b.data.toList.take 64 := by
 rw [ByteArray.data_extract, Array.toList_extract]; simp [List.extract]
theorem ext_hi_list (b : ByteArray) : (b.extract 64 b.size).data.toList = b.data.toList.drop 64 := by
 rw [ByteArray.data_extract, Array.toList_extract]
 simp only [List.extract]
 exact List.take_of_length_le (by rw [List.length_drop, Array.length_toList]; exact Nat.le_refl _)
theorem len_list (b : ByteArray) : b.data.toList.length = b.size := by rw [Array.length_toList]; rfl
theorem rest1_next {s b : ByteArray} {hs : List W} (h : Rest1 s b hs) (hb : 64 <= b.size) : Rest1 s (b.extract 64 b.size) (compress K hs (words (b.extract 0 64).data.toList)) := by
 obtain ⟨h1, h2, h3⟩ := h
 refine ⟨by rw [ext_hi]; omega, by rw [ext_hi]; omega, fun tail => ?_⟩
 rw [<- h3 tail, runs_long K hs (b.data.toList ++ tail) (by rw [List.length_append, len_list]; omega), ext_lo_list, ext_hi_list,
  List.take_append_of_le_length (by rw [len_list]; exact hb), List.drop_append_of_le_length (by rw [len_list]; exact hb)]
theorem rest2_next {T : List W} {b : ByteArray} {hs : List W} (h : Rest2 T b hs) (hb : 64 <= b.size) : Rest2 T (b.extract 64 b.size) (compress K hs (words (b.extract 0 64).data.toList)) := by
 obtain ⟨h1, h2⟩ := h
 refine ⟨by rw [ext_hi]; omega, ?_⟩
 rw [<- h2, runs_long K hs b.data.toList (by rw [len_list]; omega), ext_lo_list, ext_hi_list]
theorem repeat_zero : ∀ c, Lib.repeatL [0] c = List.replicate c 0
 | 0 => rfl
 | c + 1 => by rw [Lib.repeatL, repeat_zero c]; rfl
theorem mem_below {w0 w w' : World} {hs : List W} (h : Mem w0 w hs) (h2 : Below w.heap.size w w') : Mem w0 w' hs :=
 ⟨h.1, (h2.block _ (heap_lt h.2.1)).trans h.2.1, h.2.2.trans (Tch.of_new h2)⟩
theorem conv1 (W : World) (n : Int) (x : UInt8) (h : n = (x.toNat : Int)) :
 (convert 69 9 (.slice (some ⟨W.heap.size, 0, none⟩) 1 1)).run Tryz.prog (W.alloc (.cells #[.int .u8 n] 5)) = .ok (.string ⟨#[x]⟩) (W.alloc (.cells #[.int .u8 n] 5)) := by
 subst h
 refine run_convert_bytes_back _ 69 9 5 _ 1 [x] Tryz.underlying69 Tryz.underlying5 Tryz.underlying9 fun j hj => ?_
 obtain rfl : j = 0 := by simp at hj; exact hj
 rw [add0, cell_of (heap_alloc_at _ _)]; rfl
theorem mem_alloc {w0 w : World} {hs : List W} (h : Mem w0 w hs) (o : Obj) : Mem w0 (w.alloc o) hs :=
 ⟨h.1, (heap_alloc_lt _ _ _ (heap_lt h.2.1)).trans h.2.1, h.2.2.alloc o⟩
theorem rest2_start {s b q : ByteArray} {hs : List W} (h : Rest1 s b hs) (hb : b.size < 64) (hq : q.data.toList = b.data.toList ++ (128 :: List.replicate ((119 - b.size) % 64) 0 ++ (be8 (s.size * 8)).take 8)) :
 Rest2 (runs K H0 (s.data.toList ++ padding s.data.toList.length)) q hs := by
 obtain ⟨h1, h2, h3⟩ := h
 have e8 : (be8 (s.size * 8)).take 8 = be8 (s.size * 8) := List.take_of_length_le (by simp [be8])
 have hp : padding s.data.toList.length = 128 :: List.replicate ((119 - b.size) % 64) 0 ++ be8 (s.size * 8) := by
  rw [padding, len_list, <- h2, Nat.mod_eq_of_lt hb]
 rw [e8, <- hp] at hq
 refine ⟨?_, by rw [hq, h3]⟩
 rw [<- len_list, hq, hp]
 simp [be8, len_list]
 omega
def Padded (b : ByteArray) (e : List UInt8) (j : Nat) (q : ByteArray) : Prop := q.data.toList = b.data.toList ++ (128 :: List.replicate ((119 - b.size) % 64) 0 ++ e.take j)
theorem pad_start (b z : ByteArray) (c : Nat) (hz : z.data.toList = List.replicate ((119 - b.size) % 64) 0) (e : List UInt8) : Padded b e 0 (b ++ { data := #[128] } ++ z) := by
 unfold Padded
 simp [ByteArray.data_append, hz]
theorem padded_next {b q : ByteArray} {n j : Nat} (h : Padded b (be8 n) j q) (hj : j < 8) : Padded b (be8 n) (j + 1) (q ++ ⟨#[UInt8.ofNat (n / 2 ^ (8 * (7 - j)))]⟩) := by
 unfold Padded at *
 have hl : (be8 n).length = 8 := by simp [be8]
 have : (be8 n).take (j + 1) = (be8 n).take j ++ [UInt8.ofNat (n / 2 ^ (8 * (7 - j)))] := by
  rw [List.take_add_one]
  congr 1
  simp [be8, List.getElem?_range hj]
 rw [ByteArray.data_append, Array.toList_append, h, this]
 simp
theorem padded_size {b q : ByteArray} {e : List UInt8} {j : Nat} (h : Padded b e j q) (hb : b.size < 64) (he : e.length = 8) : (q.size : Int) < 200 := by
 have := congrArg List.length h
 rw [len_list] at this
 simp [len_list, he] at this
 omega
theorem rest2_end {T : List W} {b : ByteArray} {hs : List W} (h : Rest2 T b hs) (hb : b.size = 0) : T = hs := by
 rw [<- h.2, runs_short K hs _ (by rw [len_list]; omega)]
theorem idx8 (W : World) (y0 y1 y2 y3 y4 y5 y6 y7 : BitVec 32) : ∀ j, j < 8 -> (Instr.index 181 (.agg #[.int .u32 (nv y0), .int .u32 (nv y1), .int .u32 (nv y2), .int .u32 (nv y3), .int .u32 (nv y4), .int .u32 (nv y5), .int .u32 (nv y6), .int .u32 (nv y7)]) (.int .i64 (j : Nat))).run Tryz.prog W = .ok (.int .u32 (nv (([y0, y1, y2, y3, y4, y5, y6, y7] : List (BitVec 32)).getD j 0))) W
 | 0, _ => by kernel_rfl
 | 1, _ => by kernel_rfl
 | 2, _ => by kernel_rfl
 | 3, _ => by kernel_rfl
 | 4, _ => by kernel_rfl
 | 5, _ => by kernel_rfl
 | 6, _ => by kernel_rfl
 | 7, _ => by kernel_rfl
 | n + 8, h => absurd h (by omega)
theorem flat_next {ys : List W} {j : Nat} (hl : ys.length = 8) (hj : j < 8) : (ys.take (j + 1)).flatMap ofWord = (ys.take j).flatMap ofWord ++ ofWord (ys.getD j 0) := by
 rw [List.take_add_one, List.flatMap_append, List.getD_eq_getElem?_getD, List.getElem?_eq_getElem (by omega)]
 simp
theorem flat_len : ∀ {ys : List W}, ys.length = 8 -> (ys.flatMap ofWord).length = 8 * 4 := by
 intro ys h
 obtain ⟨y0, y1, y2, y3, y4, y5, y6, y7, rfl⟩ := eight h
 rfl
theorem byte_of (x : W) : ((UInt8.ofNat x.toNat).toNat : Int) = nv x % 256 := by
 rw [UInt8.toNat_ofNat']; unfold nv; omega
theorem word_cells (x : W) : ([.int .u8 (nv x / 16777216 % 256), .int .u8 (nv x / 65536 % 256), .int .u8 (nv x / 256 % 256), .int .u8 (nv x % 256)] : List Value) = bc (ofWord x) := by
 have h24 : nv x / (16777216 : Int) = nv (x >>> 24) := nv_shr x 24
 have h16 : nv x / (65536 : Int) = nv (x >>> 16) := nv_shr x 16
 have h8 : nv x / (256 : Int) = nv (x >>> 8) := nv_shr x 8
 rw [h24, h16, h8, <- byte_of, <- byte_of, <- byte_of, <- byte_of]; rfl
theorem sum_next {w wr w1 : World} {g cap j B : Nat} {v : Value} {yj : W} {ys : List W} (ho : wr.ownsRow B 5 1 v (j * 4) (bc ((ys.take j).flatMap ofWord)))
 (hn : (ys.take (j + 1)).flatMap ofWord = (ys.take j).flatMap ofWord ++ ofWord yj) (ht : Tch (fun _ => False) w wr) (hB : B <= wr.heap.size) (hw : w.heap.size <= B)
 (h1 : w1.ownsRow B 5 1 (.slice (some ⟨g, 0, none⟩) (j * 4 + 4) cap) (j * 4 + 4) (bc ((ys.take j).flatMap ofWord) ++ [.int .u8 (nv yj / 16777216 % 256), .int .u8 (nv yj / 65536 % 256), .int .u8 (nv yj / 256 % 256), .int .u8 (nv yj % 256)]))
 (h2 : (wr.alloc (.cells #[.int .u8 (nv yj / 16777216 % 256), .int .u8 (nv yj / 65536 % 256), .int .u8 (nv yj / 256 % 256), .int .u8 (nv yj % 256)] 5)).grownBy w1 v.ownBlock) :
 w1.ownsRow B 5 1 (.slice (some ⟨g, 0, none⟩) (j * 4 + 4) cap) ((j + 1) * 4) (bc ((ys.take (j + 1)).flatMap ofWord)) /\ Tch (fun _ => False) w w1 /\ B <= w1.heap.size := by
 rw [word_cells] at h1
 refine ⟨by rw [hn, bc_append, show (j + 1) * 4 = j * 4 + 4 from by omega]; exact h1, own_tch (ht.alloc _) (ho.alloc _) hw h2, ?_⟩
 have := h2.size
 simp at this
 omega
theorem Sum_any (s : ByteArray) (hsz : s.size <= 140737488351232) (w : World) :
 Calls Tryz.prog 74 #[.string s] w fun e w' => e = .returned (.string (sha K H0 s)) /\ Tch (fun _ => False) w w' := by
 have hsz := lh hsz
 go_enter Tryz.func74, Tryz.ntmps74
 go_wp2_with fail
 go_loopg [4] s.size (fun g r wr => ∃ (b : ByteArray) (hs : List W), g = b.size /\ r = .string b /\ Mem w wr hs /\ Rest1 s b hs)
 case atStart => exact ⟨s, H0, rfl, rfl, mem_start w, Nat.le_refl _, rfl, fun _ => rfl⟩
 case round =>
  obtain ⟨b, hs, rfl, rfl, hm, hr⟩ := hrel
  by_cases hb : 64 <= b.size
  . have hgo : ((64 : Int) <= (b.size : Int)) := by omega
    have hN := lh (fun w' h1 h2 => mem_next (w' := w') hm (compress_length K hs (words (b.extract 0 64).data.toList)) h1 h2)
    have hC := lh (block_list w.heap.size hs hm.1 (b.extract 0 64) (ext_lo b hb) wr hm.2.1)
    have hR := lh (rest1_next hr hb)
    have hsz := lh (ext_hi b)
    clear hm hr
    go_wp2_with (go_at_call 111; refine (hC.out).mono ?_; rintro e w' ⟨rfl, h1, h2⟩; have hm := lh (hN.out _ h1 h2); clear h1 h2)
    go_roundg (b.size - 64)
    case measure => omega
    case rel => exact ⟨b.extract 64 b.size, _, hsz.out.symm, rfl, hm.out, hR.out⟩
  . have hgo : ¬ ((64 : Int) <= (b.size : Int)) := by omega
    have hbs : b.size < 64 := by omega
    obtain ⟨z, hz⟩ : ∃ z : ByteArray, z = ⟨(Lib.repeatL [0] ((119 - b.size) % 64)).toArray⟩ := ⟨_, rfl⟩
    have hC := lh (Tryz.strings_Repeat ⟨#[0]⟩ ((119 - b.size) % 64) wr (by omega) (by show 1 * _ <= _; omega))
    rw [show (((119 - b.size) % 64 : Nat) : Int) = (119 - (b.size : Int)) % 64 from by omega, <- hz] at hC
    have hzl := lh (show z.data.toList = List.replicate ((119 - b.size) % 64) 0 from by rw [hz]; exact repeat_zero _)
    have hzs := lh (show z.size = (119 - b.size) % 64 from by rw [<- len_list, hzl.out, List.length_replicate])
    have hz64 : (z.size : Int) < 64 := by have := hzs.out; omega
    have hmH := lh hm
    have hrH := lh hr
    have hbs' : (b.size : Int) < 64 := by omega
    clear hm hr hz
    go_wp2_with (go_at_call 112; refine (hC.out).mono ?_; rintro e w' ⟨rfl, hw'⟩; have hm := lh (mem_below hmH.out hw'); clear hw')
    have hq0 := lh (pad_start b z 0 hzl.out (be8 (s.size * 8)))
    clear hC hmH hzl
    generalize b ++ ({ data := #[128] } : ByteArray) ++ z = q0 at *
    go_loopg [5, 7] 8 (fun g l i W => ∃ (j : Nat) (q : ByteArray), g = 8 - j /\ j <= 8 /\ l = .string q /\ i = .int .i64 (7 - (j : Int)) /\ Padded b (be8 (s.size * 8)) j q /\ Mem w W hs)
    case atStart => exact ⟨0, q0, rfl, by omega, rfl, rfl, hq0.out, hm.out⟩
    case round =>
     clear hq0 hm
     obtain ⟨j, q, hg, hj, rfl, rfl, hq, hm⟩ := hrel
     subst hg
     by_cases hjl : j < 8
     . have hqs : (q.size : Int) < 200 := padded_size hq hbs (by simp [be8])
       have hqH := lh hq
       have hmH := lh hm
       clear hq hm
       obtain rfl | rfl | rfl | rfl | rfl | rfl | rfl | rfl : j = 0 \/ j = 1 \/ j = 2 \/ j = 3 \/ j = 4 \/ j = 5 \/ j = 6 \/ j = 7 := by omega
       . obtain ⟨x, hx⟩ : ∃ x, x = UInt8.ofNat (s.size * 8 / 2 ^ (8 * (7 - 0))) := ⟨_, rfl⟩
         have hcv := fun W : World => conv1 W ((s.size : Int) * 8 / 72057594037927936) x (by have := hsz.out; rw [hx, UInt8.toNat_ofNat']; omega)
         have hnx := lh (padded_next hqH.out (by decide : 0 < 8))
         rw [<- hx] at hnx
         clear hx
         go_wp2_with fail
         go_roundg (8 - (0 + 1))
         case measure => omega
         case rel => exact ⟨0 + 1, _, rfl, by omega, rfl, by go_num, hnx.out, (mem_alloc hmH.out _)⟩
       . obtain ⟨x, hx⟩ : ∃ x, x = UInt8.ofNat (s.size * 8 / 2 ^ (8 * (7 - 1))) := ⟨_, rfl⟩
         have hcv := fun W : World => conv1 W ((s.size : Int) * 8 / 281474976710656) x (by have := hsz.out; rw [hx, UInt8.toNat_ofNat']; omega)
         have hnx := lh (padded_next hqH.out (by decide : 1 < 8))
         rw [<- hx] at hnx
         clear hx
         go_wp2_with fail
         go_roundg (8 - (1 + 1))
         case measure => omega
         case rel => exact ⟨1 + 1, _, rfl, by omega, rfl, by go_num, hnx.out, (mem_alloc hmH.out _)⟩
       . obtain ⟨x, hx⟩ : ∃ x, x = UInt8.ofNat (s.size * 8 / 2 ^ (8 * (7 - 2))) := ⟨_, rfl⟩
         have hcv := fun W : World => conv1 W (((s.size : Int) * 8 / 1099511627776) % 256) x (by have := hsz.out; rw [hx, UInt8.toNat_ofNat']; omega)
         have hnx := lh (padded_next hqH.out (by decide : 2 < 8))
         rw [<- hx] at hnx
         clear hx
         go_wp2_with fail
         go_roundg (8 - (2 + 1))
         case measure => omega
         case rel => exact ⟨2 + 1, _, rfl, by omega, rfl, by go_num, hnx.out, (mem_alloc hmH.out _)⟩
       . obtain ⟨x, hx⟩ : ∃ x, x = UInt8.ofNat (s.size * 8 / 2 ^ (8 * (7 - 3))) := ⟨_, rfl⟩
         have hcv := fun W : World => conv1 W (((s.size : Int) * 8 / 4294967296) % 256) x (by have := hsz.out; rw [hx, UInt8.toNat_ofNat']; omega)
         have hnx := lh (padded_next hqH.out (by decide : 3 < 8))
         rw [<- hx] at hnx
         clear hx
         go_wp2_with fail
         go_roundg (8 - (3 + 1))
         case measure => omega
         case rel => exact ⟨3 + 1, _, rfl, by omega, rfl, by go_num, hnx.out, (mem_alloc hmH.out _)⟩
       . obtain ⟨x, hx⟩ : ∃ x, x = UInt8.ofNat (s.size * 8 / 2 ^ (8 * (7 - 4))) := ⟨_, rfl⟩
         have hcv := fun W : World => conv1 W (((s.size : Int) * 8 / 16777216) % 256) x (by have := hsz.out; rw [hx, UInt8.toNat_ofNat']; omega)
         have hnx := lh (padded_next hqH.out (by decide : 4 < 8))
         rw [<- hx] at hnx
         clear hx
         go_wp2_with fail
         go_roundg (8 - (4 + 1))
         case measure => omega
         case rel => exact ⟨4 + 1, _, rfl, by omega, rfl, by go_num, hnx.out, (mem_alloc hmH.out _)⟩
       . obtain ⟨x, hx⟩ : ∃ x, x = UInt8.ofNat (s.size * 8 / 2 ^ (8 * (7 - 5))) := ⟨_, rfl⟩
         have hcv := fun W : World => conv1 W (((s.size : Int) * 8 / 65536) % 256) x (by have := hsz.out; rw [hx, UInt8.toNat_ofNat']; omega)
         have hnx := lh (padded_next hqH.out (by decide : 5 < 8))
         rw [<- hx] at hnx
         clear hx
         go_wp2_with fail
         go_roundg (8 - (5 + 1))
         case measure => omega
         case rel => exact ⟨5 + 1, _, rfl, by omega, rfl, by go_num, hnx.out, (mem_alloc hmH.out _)⟩
       . obtain ⟨x, hx⟩ : ∃ x, x = UInt8.ofNat (s.size * 8 / 2 ^ (8 * (7 - 6))) := ⟨_, rfl⟩
         have hcv := fun W : World => conv1 W (((s.size : Int) * 8 / 256) % 256) x (by have := hsz.out; rw [hx, UInt8.toNat_ofNat']; omega)
         have hnx := lh (padded_next hqH.out (by decide : 6 < 8))
         rw [<- hx] at hnx
         clear hx
         go_wp2_with fail
         go_roundg (8 - (6 + 1))
         case measure => omega
         case rel => exact ⟨6 + 1, _, rfl, by omega, rfl, by go_num, hnx.out, (mem_alloc hmH.out _)⟩
       . obtain ⟨x, hx⟩ : ∃ x, x = UInt8.ofNat (s.size * 8 / 2 ^ (8 * (7 - 7))) := ⟨_, rfl⟩
         have hcv := fun W : World => conv1 W ((s.size : Int) * 8 % 256) x (by have := hsz.out; rw [hx, UInt8.toNat_ofNat']; omega)
         have hnx := lh (padded_next hqH.out (by decide : 7 < 8))
         rw [<- hx] at hnx
         clear hx
         go_wp2_with fail
         go_roundg (8 - (7 + 1))
         case measure => omega
         case rel => exact ⟨7 + 1, _, rfl, by omega, rfl, by go_num, hnx.out, (mem_alloc hmH.out _)⟩
     . have hj8 : j = 8 := by omega
       subst hj8
       have hr2 := lh (rest2_start hrH.out hbs hq)
       have hmH := lh hm
       clear hq hm hrH
       go_wp2_with fail
       clear hbs' hz64 hzs
       go_loopg [5] q.size (fun g l W => ∃ (b : ByteArray) (hs : List (BitVec 32)), g = b.size /\ l = .string b /\ Mem w W hs /\ Rest2 (runs K H0 (s.data.toList ++ padding s.data.toList.length)) b hs)
       case atStart => exact ⟨q, hs, rfl, rfl, hmH.out, hr2.out⟩
       case round =>
        clear hr2 hmH
        obtain ⟨b, hs, rfl, rfl, hm, hr⟩ := hrel
        by_cases hb : 0 < b.size
        . have hb64 : 64 <= b.size := by have := hr.1; omega
          have hgo : ((64 : Int) <= (b.size : Int)) := by omega
          have hgo0 : ((0 : Int) < (b.size : Int)) := by omega
          have hN := lh (fun w' h1 h2 => mem_next (w' := w') hm (compress_length K hs (words (b.extract 0 64).data.toList)) h1 h2)
          have hC := lh (block_list w.heap.size hs hm.1 (b.extract 0 64) (ext_lo b hb64) wr hm.2.1)
          have hR := lh (rest2_next hr hb64)
          have hsz := lh (ext_hi b)
          clear hm hr
          go_wp2_with (go_at_call 111; refine (hC.out).mono ?_; rintro e w' ⟨rfl, h1, h2⟩; have hm := lh (hN.out _ h1 h2); clear h1 h2)
          go_roundg (b.size - 64)
          case measure => omega
          case rel => exact ⟨b.extract 64 b.size, _, hsz.out.symm, rfl, hm.out, hR.out⟩
        . have hgo0 : ¬ ((0 : Int) < (b.size : Int)) := by omega
          have hr : runs K H0 (s.data.toList ++ padding s.data.toList.length) = hs := rest2_end hr (by omega)
          have hrH := lh hr
          obtain ⟨y0, y1, y2, y3, y4, y5, y6, y7, rfl⟩ := eight hm.1
          obtain ⟨hc0, hc1, hc2, hc3, hc4, hc5, hc6, hc7⟩ := st_cells hm.2.1
          have hmH := lh hm.2.2
          clear hm hr
          have hix := fun (W : World) (j : Nat) (hj : j < 8) => idx8 W y0 y1 y2 y3 y4 y5 y6 y7 j hj
          have hout0 := lh (own_nil wr wr.heap.size)
          have hB := lh (hmH.out.size)
          obtain ⟨i8, hi8, hz8, hs8, hb8⟩ := info8
          go_wp2_with fail
          clear hc0 hc1 hc2 hc3 hc4 hc5 hc6 hc7
          obtain ⟨B, hBe⟩ : ∃ B, B = wr.heap.size := ⟨_, rfl⟩
          rw [<- hBe] at hout0 hB
          have hBe := lh (Nat.le_of_eq hBe)
          obtain ⟨ys, hys⟩ : ∃ ys : List (BitVec 32), ys = [y0, y1, y2, y3, y4, y5, y6, y7] := ⟨_, rfl⟩
          rw [<- hys] at hrH hix
          have hyl : ys.length = 8 := by rw [hys]; rfl
          have hyl := lh hyl
          clear hys
          go_loopg [8, 55] 8 (fun g v i W => ∃ j : Nat, g = 8 - j /\ j <= 8 /\ i = .int .i64 j /\ W.ownsRow B 5 1 v (j * 4) (bc ((ys.take j).flatMap ofWord)) /\ Tch (fun _ => False) w W /\ B <= W.heap.size)
          case atStart => exact ⟨0, rfl, by omega, rfl, hout0.out, hmH.out, hBe.out⟩
          case round =>
           clear hout0 hmH hBe
           obtain ⟨j, hg, hj, rfl, ho, ht, hBs⟩ := hrel
           subst hg
           by_cases hjl : j < 8
           . have hj8 : (j : Int) < 8 := by omega
             have hixj := fun W => hix W j hjl
             have hnx := flat_next hyl.out hjl
             have hj4 : j * 4 <= 32 := by omega
             have ho := lh ho
             have hnx := lh hnx
             have ht := lh ht
             have hBs := lh hBs
             clear hix
             generalize ys.getD j 0 = yj at *
             have hfin := fun g cap w1 => sum_next (g := g) (cap := cap) (w1 := w1) (yj := yj) (B := B) (w := w) (wr := wr) ho.out hnx.out ht.out hBs.out hB.out
             have hfin := lh hfin
             clear hnx
             go_wp2_with (at_builtin; refine wpList_append_lies _ (by rfl) _ _ _ (by rfl) B 5 i8 _ 1 1 Tryz.underlying69 hi8 hz8 hs8 hb8 rfl (by omega) u8 (j * 4) _ (by rfl) (ho.out.alloc _) ⟨wr.heap.size, 0, none⟩ 4 4 [.int .u8 (nv yj / 16777216 % 256), .int .u8 (nv yj / 65536 % 256), .int .u8 (nv yj / 256 % 256), .int .u8 (nv yj % 256)] (by rfl) (by rfl) (World.news_of_block (heap_alloc_at _ _)) (by simp [Value.oneCell']) (by omega) (by unfold maxLen; omega) (by omega) (by simp; have := hBs.out; omega) (wr.heap.size + 1) (by simp) ?_; intro g cap w1 hown1 hgrow hat hlt)
             go_roundg (8 - (j + 1))
             case measure => omega
             case rel => exact ⟨j + 1, rfl, by omega, by go_num, hfin.out _ _ _ hown1 hgrow⟩
           . have hj8 : j = 8 := by omega
             subst hj8
             rw [List.take_of_length_le (by rw [hyl.out]; omega), show 8 * 4 = (ys.flatMap ofWord).length from (flat_len hyl.out).symm] at ho
             have hcv := own_conv _ _ _ _ ho
             have hres : sha K H0 s = ⟨(ys.flatMap ofWord).toArray⟩ := by rw [<- hrH.out]; rfl
             have hres := lh hres
             have ht := lh ht
             generalize (⟨(ys.flatMap ofWord).toArray⟩ : ByteArray) = out at hres hcv
             clear ho hix
             go_wp2_with fail
             go_ret
             exact ⟨by rw [hres.out]; rfl, ht.out⟩
end Go.Proofs.YtbiioaggilaebaaGreatDoor.Sha
namespace Go.Proofs.YtbiioaggilaebaaGreatDoor.Tm
open Go Go.RowKit B Bld
theorem set3 {w : World} {g : Nat} {a b c x y z : Value} {t : TypeId} (h : w.heap[g]? = some (.cells #[a, b, c] t (0, 0))) :
 (((w.setCell ⟨g, 0, none⟩ x).setCell ⟨g, 1, none⟩ y).setCell ⟨g, 2, none⟩ z).heap[g]? = some (.cells #[x, y, z] t (0, 0)) := by
 have h1 := heap_set w g 0 x _ t _ h
 have h2 := heap_set _ g 1 y _ t _ h1
 have h3 := heap_set _ g 2 z _ t _ h2
 exact h3
def vtext (s : ByteArray) : Value := .agg #[.bool false, .string s, .slice none 0 0]
def vlist (a : Value) : Value := .agg #[.bool true, .string ⟨#[]⟩, a]
theorem text_c (s : ByteArray) (w : World) : Calls Tryz.prog 46 #[.string s] w fun ev w' => ev = .returned (vtext s) /\ Below w.heap.size w w' := by
 go_enter Tryz.func46, Tryz.ntmps46
 go_wp2_with fail
 go_returns
 exact ⟨rfl, (Below.refl _ _).alloc (Nat.le_refl _) _⟩
theorem list_c (A : Option Addr) (n c : Nat) (w : World) : Calls Tryz.prog 41 #[.slice A n c] w fun ev w' => ev = .returned (vlist (.slice A n c)) /\ Below w.heap.size w w' := by
 go_enter Tryz.func41, Tryz.ntmps41
 go_wp2_with fail
 go_returns
 exact ⟨rfl, (Below.refl _ _).alloc (Nat.le_refl _) _⟩
theorem rtext_c (s : ByteArray) (w : World) : Calls Tryz.prog 88 #[.string s] w fun ev w' => ev = .returned (vtext s) /\ Below w.heap.size w w' := by
 go_enter Tryz.func88, Tryz.ntmps88
 go_wp2_with fail
 go_returns
 exact ⟨rfl, (Below.refl _ _).alloc (Nat.le_refl _) _⟩
theorem rlist_c (A : Option Addr) (n c : Nat) (w : World) : Calls Tryz.prog 87 #[.slice A n c] w fun ev w' => ev = .returned (vlist (.slice A n c)) /\ Below w.heap.size w w' := by
 go_enter Tryz.func87, Tryz.ntmps87
 go_wp2_with fail
 go_returns
 exact ⟨rfl, (Below.refl _ _).alloc (Nat.le_refl _) _⟩
end Go.Proofs.YtbiioaggilaebaaGreatDoor.Tm
