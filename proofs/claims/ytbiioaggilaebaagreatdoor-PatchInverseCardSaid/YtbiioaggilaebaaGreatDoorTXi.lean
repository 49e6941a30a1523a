/- What LawPatchInverse lean on, part i of 29: the texts Mix, RefC, ShaB. -/
import Derived.Test.YtbiioaggilaebaaGreatDoorTX0
import Derived.Test.YtbiioaggilaebaaGreatDoorTXh
import Derived.Deep.DeepCutAuto
import Derived.Deep.LoopGhost
import Derived.Deep.RegionLaw
import Derived.Laws.CopyOwn
import Derived.StillTailTactics
set_option linter.all false
set_option maxRecDepth 100000
set_option maxHeartbeats 16000000
namespace Go.Proofs.YtbiioaggilaebaaGreatDoor.B
open Go Go.RowKit
section
variable {P : Program} {ops : Array Oper} {md : Region.Mode}
def pathB (md : Region.Mode) (ops : Array Oper) : Nat -> Nat -> Nat -> Bool
 | 0, _, _ => false
 | f + 1, i, n => match ops[n]? with
  | some o => o.after.any fun e => Region.binds md e && (e.on == i || pathB md ops f i e.on)
  | none => false
structure Clo (md : Region.Mode) (ops : Array Oper) (listed : Array Bool) : Prop where
 size : listed.size = ops.size
 closed : ∀ j oj, ops[j]? = some oj -> listed.getD j false = true -> ∀ e ∈ oj.after, Region.binds md e = true -> listed.getD e.on false = true
theorem Clo.set {i : Nat} {listed : Array Bool} (inv : Clo md ops listed) (hi : i ∈ Region.ready md ops listed) : Clo md ops (listed.setIfInBounds i true) := by
 obtain ⟨_, oi, hoi, hall⟩ := mem_ready.1 hi
 refine ⟨by simp [inv.size], fun j oj hj hl e he hb => ?_⟩
 by_cases hij : i = j
 . subst hij
   have : oj = oi := Option.some.inj (hj.symm.trans hoi)
   subst this
   exact getD_set_true (hall e he hb)
 . rw [getD_set_ne false hij] at hl
   exact getD_set_true (inv.closed j oj hj hl e he hb)
theorem path_listed {listed : Array Bool} (inv : Clo md ops listed) : ∀ (f i n : Nat), pathB md ops f i n = true -> listed.getD n false = true -> listed.getD i false = true
 | 0, _, _, h, _ => by simp [pathB] at h
 | f + 1, i, n, h, hn => by
  unfold pathB at h
  split at h
  . rename_i o ho
    obtain ⟨e, he, hb⟩ := Array.any_eq_true'.1 h
    simp only [Bool.and_eq_true, Bool.or_eq_true, beq_iff_eq] at hb
    have h1 := inv.closed n o ho hn e he hb.1
    rcases hb.2 with h2 | h2
    . rw [<- h2]; exact h1
    . exact path_listed inv f i e.on h2 h1
  . cases h
theorem path_ready {listed : Array Bool} (inv : Clo md ops listed) {f i n : Nat} (h : pathB md ops f i n = true) (hn : n ∈ Region.ready md ops listed) : listed.getD i false = true := by
 cases f with
 | zero => simp [pathB] at h
 | succ f =>
  obtain ⟨_, o, ho, hall⟩ := mem_ready.1 hn
  unfold pathB at h
  rw [ho] at h
  obtain ⟨e, he, hb⟩ := Array.any_eq_true'.1 h
  simp only [Bool.and_eq_true, Bool.or_eq_true, beq_iff_eq] at hb
  have h1 := hall e he hb.1
  rcases hb.2 with h2 | h2
  . rw [<- h2]; exact h1
  . exact path_listed inv f i e.on h2 h1
def askS (md : Region.Mode) (ops : Array Oper) (ms : List Nat) (j : Nat) : Bool := ms.any fun m => decide (m ≠ j) && !pathB md ops ops.size m j
def wpAnyM (P : Program) (md : Region.Mode) (ops : Array Oper) (S : World -> Prop) (Q : Exit -> Act -> World -> Prop) (ms : List Nat) : Nat -> Array Bool -> Act -> World -> Prop
 | 0, listed, a, w => Region.ready md ops listed = [] /\ Q .normal a w
 | f + 1, listed, a, w => Region.ready md ops listed ≠ [] /\ ∀ i ∈ Region.ready md ops listed, wpOp P ops (NoPanic Q) i (fun a' w' => (askS md ops ms i = true -> S w -> S w') /\ wpAnyM P md ops S Q ms f (listed.setIfInBounds i true) a' w') a w
theorem wpAny_of_M {S : World -> Prop} {Q : Exit -> Act -> World -> Prop} {ms : List Nat} : ∀ (f : Nat) (listed : Array Bool) (a : Act) (w : World), wpAnyM P md ops S Q ms f listed a w -> wpAny P md ops (NoPanic Q) f listed a w
 | 0, _, _, _, h => ⟨h.1, h.2⟩
 | f + 1, _, _, _, h => ⟨fun e => absurd e h.1, fun i hi => wpOp_mono (fun a' w' hh => wpAny_of_M f _ a' w' hh.2) (h.2 i hi)⟩
theorem wpAnyM_first {C S : World -> Prop} {Q : Exit -> Act -> World -> Prop} {ms : List Nat} {i : Nat} {oi : Oper} {v : Value} (hi : ops[i]? = some oi) (hsel : ∀ (j : Nat) (o : Oper) cs b, ops[j]? = some o -> o.op ≠ .select cs b)
 (hC : (∀ w, C w) \/ ((∀ w, C w -> S w) /\ (∀ w, S w -> C w) /\ ms.contains i = true)) :
 ∀ (f : Nat) (listed : Array Bool) (a : Act) (w : World), C w -> Clo md ops listed ->
  (∀ j oj, ops[j]? = some oj -> j ≠ i -> listed.getD j true = false -> (∀ e ∈ oj.after, Region.binds md e = true -> e.on ≠ i) -> oi.apart ops oj = true) ->
  i ∈ Region.ready md ops listed -> YieldsR P ops C oi v a ->
  wpAnyM P md ops S Q ms f (listed.setIfInBounds i true) (a.put oi.dst v) w -> wpAnyM P md ops S Q ms (f + 1) listed a w := by
 intro f
 induction f with
 | zero =>
  intro listed a w hCw inv _ hr hy H
  refine ⟨fun h => (by rw [h] at hr; cases hr), fun j hj => ?_⟩
  by_cases hji : j = i
  . subst hji; exact hy.op hi hCw ⟨fun _ h => h, H⟩
  . have := ready_mono hj hji
    rw [H.1] at this
    cases this
 | succ f ih =>
  intro listed a w hCw inv hfree hr hy H
  have hun := (mem_ready.1 hr).1
  refine ⟨fun h => (by rw [h] at hr; cases hr), fun j hj => ?_⟩
  by_cases hji : j = i
  . subst hji; exact hy.op hi hCw ⟨fun _ h => h, H⟩
  . have h1 := H.2 j (ready_mono hj hji)
    obtain ⟨hjun, oj, hoj, hall⟩ := mem_ready.1 hj
    have hnot : ∀ e ∈ oj.after, Region.binds md e = true -> e.on ≠ i := fun e he hb heq => by
     have h1 := hall e he hb
     rw [heq, getD_both hun] at h1
     cases h1
    have h2 := wpOp_putR hoj (hfree j oj hoj hji hjun hnot) (fun cs b => hsel i oi cs b hi) (fun cs b => hsel j oj cs b hoj) hy h1
    have hfree' : ∀ k ok, ops[k]? = some ok -> k ≠ i -> (listed.setIfInBounds j true).getD k true = false ->
     (∀ e ∈ ok.after, Region.binds md e = true -> e.on ≠ i) -> oi.apart ops ok = true := fun k ok hk hki hun hno => by
     refine hfree k ok hk hki ?_ hno
     by_cases hjk : j = k
     . subst hjk; exact hjun
     . rw [getD_set_ne true hjk] at hun; exact hun
    have hask : (∀ w, C w) \/ askS md ops ms j = true := by
     rcases hC with hC | ⟨_, _, hm⟩
     . exact .inl hC
     . right
       unfold askS
       rw [List.any_eq_true]
       refine ⟨i, by simpa using hm, ?_⟩
       rw [Bool.and_eq_true, decide_eq_true_eq, Bool.not_eq_true']
       refine ⟨fun e => hji e.symm, ?_⟩
       cases hp : pathB md ops ops.size i j with
       | false => rfl
       | true =>
        have := path_ready inv hp hj
        rw [getD_both hun] at this
        cases this
    refine wpOp_mono (fun a' w' h3 => ⟨h3.2.1, ih (listed.setIfInBounds j true) a' w' ?_ (inv.set hj) hfree' (ready_mono hr (Ne.symm hji)) h3.1 ?_⟩) h2
    . rcases hC with hC | ⟨h4, h5, _⟩
      . exact hC _
      . rcases hask with hC | hask
        . exact hC _
        . exact h5 _ (h3.2.1 hask (h4 _ hCw))
    . rw [Array.setIfInBounds_comm _ _ hji]
      exact h3.2.2
inductive Item where
 | mem (ks : List Nat)
 | pure (ks : List Nat)
 | keep (k : Nat)
 | last (k : Nat)
abbrev InC (S : World -> Prop) : World -> Prop := fun W => ∃ x : InS S, W = x.val
instance : Nonempty (InS fun _ => True) := ⟨⟨default, trivial⟩⟩
def wpMix (P : Program) (l : List Oper) (S : World -> Prop) (Q : Exit -> Act -> World -> Prop) : List Item -> Act -> World -> Prop
 | [], a, w => Q .normal a w
 | .mem ks :: r, a, w => wpQuiet P l.toArray (InC S) (fun a' => wpMix P l S Q r a' w) (pick l ks) a
 | .pure ks :: r, a, w => wpQuiet P l.toArray (InC fun _ => True) (fun a' => wpMix P l S Q r a' w) (pick l ks) a
 | .keep k :: r, a, w => wpList P l.toArray (stepPost Q (fun a' w' => S w' /\ wpMix P l S Q r a' w')) (pick l [k]) a w
 | .last k :: r, a, w => wpList P l.toArray (stepPost Q (fun a' w' => wpMix P l S Q r a' w')) (pick l [k]) a w
def hasMem : List Item -> Bool
 | [] => false
 | .mem _ :: _ => true
 | _ :: r => hasMem r
def takeB (md : Region.Mode) (ops : Array Oper) (ok : Nat -> Oper -> Bool) (k : Array Bool -> Bool) : List Nat -> Array Bool -> Bool
 | [], listed => k listed
 | i :: is, listed => (match ops[i]? with | some o => plainOp o.op && ok i o | none => false) && (Region.ready md ops listed).contains i && Region.free md ops listed i && takeB md ops ok k is (listed.setIfInBounds i true)
def mixB (md : Region.Mode) (ops : Array Oper) (ms : List Nat) : List Item -> Array Bool -> Bool
 | [], listed => (Region.ready md ops listed).isEmpty
 | .mem ks :: r, listed => takeB md ops (fun i _ => ms.contains i) (mixB md ops ms r) ks listed
 | .pure ks :: r, listed => takeB md ops (fun _ _ => true) (mixB md ops ms r) ks listed
 | .keep k :: r, listed => decide (Region.ready md ops listed = [k]) && mixB md ops ms r (listed.setIfInBounds k true)
 | .last k :: r, listed => decide (Region.ready md ops listed = [k]) && !askS md ops ms k && !hasMem r && mixB md ops ms r (listed.setIfInBounds k true)
def sizes : List Item -> Nat
 | [] => 0
 | .mem ks :: r => ks.length + sizes r
 | .pure ks :: r => ks.length + sizes r
 | .keep _ :: r => sizes r + 1
 | .last _ :: r => sizes r + 1
def picksB (l : List Oper) : List Item -> Bool
 | [] => true
 | .mem ks :: r => pickB l ks && picksB l r
 | .pure ks :: r => pickB l ks && picksB l r
 | .keep k :: r => pickB l [k] && picksB l r
 | .last k :: r => pickB l [k] && picksB l r
theorem take_sound {l : List Oper} {S C : World -> Prop} {Q : Exit -> Act -> World -> Prop} {ms : List Nat} (hsel : Region.noSelect l.toArray = true) (ok : Nat -> Oper -> Bool)
 (hC : ∀ i o, ok i o = true -> (∀ w, C w) \/ ((∀ w, C w -> S w) /\ (∀ w, S w -> C w) /\ ms.contains i = true)) {K : Act -> Prop} {w : World} (hCw : C w) (kb : Array Bool -> Bool) (m : Nat)
 (hK : ∀ listed a, Clo .any l.toArray listed -> kb listed = true -> K a -> wpAnyM P .any l.toArray S Q ms m listed a w) :
 ∀ (ks : List Nat) (lr : List Oper) (listed : Array Bool) (a : Act), lr.map some = ks.map (fun k => l.toArray[k]?) -> Clo .any l.toArray listed -> takeB .any l.toArray ok kb ks listed = true -> wpQuiet P l.toArray C K lr a ->
 wpAnyM P .any l.toArray S Q ms (ks.length + m) listed a w
 | [], lr, listed, a, hl, inv, hB, h => by
  obtain rfl : lr = [] := by simpa using hl
  rw [List.length_nil, Nat.zero_add]
  exact hK listed a inv (by simpa [takeB] using hB) h
 | i :: ks, lr, listed, a, hl, inv, hB, h => by
  obtain ⟨o, lr, rfl⟩ : ∃ o l', lr = o :: l' := by
   cases lr with
   | nil => simp at hl
   | cons o l => exact ⟨o, l, rfl⟩
  simp only [List.map_cons, List.cons.injEq] at hl
  simp only [takeB, Bool.and_eq_true] at hB
  obtain ⟨⟨⟨hp, hr⟩, hf⟩, hB'⟩ := hB
  rw [<- hl.1] at hp
  simp only [Bool.and_eq_true] at hp
  have hr' : i ∈ Region.ready .any l.toArray listed := by simpa using hr
  obtain ⟨v, hy, hk⟩ := yieldsR_of_quiet (ops := l.toArray) hp.1 h
  rw [List.length_cons, show ks.length + 1 + m = (ks.length + m) + 1 from by omega]
  exact wpAnyM_first hl.1.symm (Region.noSelect_spec hsel) (hC i o hp.2) _ listed a w hCw inv (Region.free_spec hl.1.symm hf) hr' hy
   (take_sound hsel ok hC hCw kb m hK ks lr _ _ hl.2 (inv.set hr') hB' hk)
theorem mix_sound {l : List Oper} {S : World -> Prop} {Q : Exit -> Act -> World -> Prop} {ms : List Nat} (hsel : Region.noSelect l.toArray = true) :
 ∀ (its : List Item) (listed : Array Bool) (a : Act) (w : World), (hasMem its = true -> S w) -> picksB l its = true -> Clo .any l.toArray listed -> mixB .any l.toArray ms its listed = true -> wpMix P l S Q its a w ->
 wpAnyM P .any l.toArray S Q ms (sizes its) listed a w
 | [], listed, a, w, _, _, inv, hB, h => ⟨by simpa [mixB] using hB, h⟩
 | .mem ks :: r, listed, a, w, hS, hp, inv, hB, h => by
  simp only [picksB, Bool.and_eq_true] at hp
  refine take_sound (C := InC S) hsel (fun i _ => ms.contains i) (fun i o hm => .inr ⟨fun w hw => ?_, fun w hw => ⟨⟨w, hw⟩, rfl⟩, hm⟩) ⟨⟨w, hS rfl⟩, rfl⟩ (mixB .any l.toArray ms r) (sizes r) (fun listed a inv hb hk => mix_sound hsel r listed a w (fun _ => hS rfl) hp.2 inv hb hk) ks (pick l ks) listed a (pick_map l ks hp.1) inv hB h
  obtain ⟨x, rfl⟩ := hw
  exact x.mem
 | .pure ks :: r, listed, a, w, hS, hp, inv, hB, h => by
  simp only [picksB, Bool.and_eq_true] at hp
  exact take_sound (C := InC fun _ => True) hsel (fun _ _ => true) (fun i o _ => .inl fun w => ⟨⟨w, trivial⟩, rfl⟩) ⟨⟨w, trivial⟩, rfl⟩ (mixB .any l.toArray ms r) (sizes r) (fun listed a inv hb hk => mix_sound hsel r listed a w hS hp.2 inv hb hk) ks (pick l ks) listed a (pick_map l ks hp.1) inv hB h
 | .keep k :: r, listed, a, w, hS, hp, inv, hB, h => by
  simp only [picksB, Bool.and_eq_true] at hp
  simp only [mixB, Bool.and_eq_true, decide_eq_true_eq] at hB
  have hm := pick_map l [k] hp.1
  refine ⟨by rw [hB.1]; simp, fun i hi => ?_⟩
  rw [hB.1] at hi
  obtain rfl : i = k := by simpa using hi
  have hr' : i ∈ Region.ready .any l.toArray listed := by rw [hB.1]; simp
  simp only [pick, List.map_cons, List.map_nil, List.cons.injEq, and_true] at hm
  exact wpOp_mono (fun a' w' hh => ⟨fun _ _ => hh.1, mix_sound hsel r _ a' w' (fun _ => hh.1) hp.2 (inv.set hr') hB.2 hh.2⟩) (wpOp_of_list hm.symm h)
 | .last k :: r, listed, a, w, hS, hp, inv, hB, h => by
  simp only [picksB, Bool.and_eq_true] at hp
  simp only [mixB, Bool.and_eq_true, decide_eq_true_eq, Bool.not_eq_true'] at hB
  have hm := pick_map l [k] hp.1
  refine ⟨by rw [hB.1.1.1]; simp, fun i hi => ?_⟩
  rw [hB.1.1.1] at hi
  obtain rfl : i = k := by simpa using hi
  have hr' : i ∈ Region.ready .any l.toArray listed := by rw [hB.1.1.1]; simp
  simp only [pick, List.map_cons, List.map_nil, List.cons.injEq, and_true] at hm
  exact wpOp_mono (fun a' w' hh => ⟨fun e => by (rw [hB.1.1.2] at e; cases e), mix_sound hsel r _ a' w' (fun e => by (rw [hB.1.2] at e; cases e)) hp.2 (inv.set hr') hB.2 hh⟩) (wpOp_of_list hm.symm h)
def allB (l : List Oper) (ms : List Nat) (its : List Item) : Bool :=
 Region.noSelect l.toArray && decide (sizes its = l.toArray.size) && picksB l its && mixB .any l.toArray ms its (Array.replicate l.toArray.size false)
theorem wp_region_mix {id : Nat} {Q : Exit -> Act -> World -> Prop} {a : Act} {w : World} {l : List Oper} (S : World -> Prop) (ms : List Nat) (its : List Item)
 (hm : P.follows .mixedOrders = true) (hB : allB l ms its = true) (hS : S w.drew) (h : wpMix P l S Q its a w.drew) : (Code.region id l.toArray true).wp P Q a w := by
 simp only [allB, Bool.and_eq_true, decide_eq_true_eq] at hB
 obtain ⟨⟨⟨hsel, hlen⟩, hp⟩, hb⟩ := hB
 have inv0 : Clo .any l.toArray (Array.replicate l.toArray.size false) := ⟨by simp, fun j oj _ hl => (by rw [getD_replicate_false] at hl; cases hl)⟩
 have H := mix_sound (P := P) (Q := Q) hsel its _ a w.drew (fun _ => hS) hp inv0 hb h
 rw [hlen] at H
 refine wp_region_noPanic ?_
 exact wp_region_any hm (wpAny_of_M _ _ _ _ H)
end
end Go.Proofs.YtbiioaggilaebaaGreatDoor.B
namespace Go.Proofs.YtbiioaggilaebaaGreatDoor.Ref
open Go.RowKit B
def ab (x q p : Nat) : Bool := decide (p * 65536 ^ (2 * q) < x ^ q)
structure Abv (ml : List Nat) (q r top : Nat) (rest : Bool) : Prop where
 top : top = val (ml.drop (max r (2 * q)))
 rest : rest = decide (0 < val ((ml.take (2 * q)).drop r))
theorem drop_cons (l : List Nat) (r : Nat) (h : r < l.length) : l.drop r = l.getD r 0 :: l.drop (r + 1) := by
 rw [List.drop_eq_getElem_cons h, List.getD_eq_getElem?_getD, List.getElem?_eq_getElem h]; rfl
variable {ml : List Nat} {q r top : Nat} {rest : Bool}
theorem Abv.start (ml : List Nat) (q : Nat) (h : ml.length = 3 * q) : Abv ml q (3 * q) 0 false := by
 constructor
 . rw [List.drop_of_length_le (by omega)]; rfl
 . rw [List.drop_of_length_le (by rw [List.length_take]; omega)]; rfl
theorem Abv.high (h : Abv ml q (r + 1) top rest) (hl : ml.length = 3 * q) (hr : r < 3 * q) (hq : 2 * q <= r) : Abv ml q r (top * 65536 + ml.getD r 0) rest := by
 constructor
 . rw [h.top, Nat.max_eq_left (by omega), Nat.max_eq_left (by omega), drop_cons ml r (by omega), val]; omega
 . rw [h.rest, List.drop_of_length_le (by rw [List.length_take]; omega), List.drop_of_length_le (by rw [List.length_take]; omega)]
theorem Abv.low (h : Abv ml q (r + 1) top rest) (hl : ml.length = 3 * q) (hq : r < 2 * q) : Abv ml q r top (rest || decide (0 < ml.getD r 0)) := by
 constructor
 . rw [h.top, Nat.max_eq_right (by omega), Nat.max_eq_right (by omega)]
 . have e : (ml.take (2 * q)).getD r 0 = ml.getD r 0 := by
    simp only [List.getD_eq_getElem?_getD]
    rw [List.getElem?_take, if_pos hq]
   rw [drop_cons (ml.take (2 * q)) r (by rw [List.length_take]; omega), val, e, h.rest, <- Bool.decide_or]
   congr 1
   apply propext
   omega
theorem small_mem {l : List Nat} (h : ∀ k, l.getD k 0 < 65536) : ∀ x ∈ l, x < 65536 := by
 intro x hx
 obtain ⟨i, hi, rfl⟩ := List.getElem_of_mem hx
 have := h i
 rwa [List.getD_eq_getElem?_getD, List.getElem?_eq_getElem hi] at this
theorem Abv.bound (h : Abv ml q r top rest) (hl : ml.length = 3 * q) (hq : q <= 3) (hs : ∀ k, ml.getD k 0 < 65536) : top < 281474976710656 := by
 rw [h.top]
 have h1 := val_lt (ml.drop (max r (2 * q))) (fun x hx => small_mem hs x (List.mem_of_mem_drop hx))
 have h2 : 65536 ^ (ml.drop (max r (2 * q))).length <= 65536 ^ 3 := Nat.pow_le_pow_right (by omega) (by rw [List.length_drop]; omega)
 omega
theorem Abv.done (h : Abv ml q 0 top rest) (hl : ml.length = 3 * q) (hs : ∀ k, ml.getD k 0 < 65536) {x : Nat} (hv : val ml = x ^ q) (p : Nat) :
 (decide (p < top) || (decide (top = p) && rest)) = ab x q p := by
 have h1 := val_split ml (2 * q) (by omega)
 have h2 := val_lt (ml.take (2 * q)) (fun x hx => small_mem hs x (List.mem_of_mem_take hx))
 rw [List.length_take, Nat.min_eq_left (by omega)] at h2
 have ht := h.top
 have hr := h.rest
 rw [Nat.max_eq_right (by omega)] at ht
 rw [List.drop_zero] at hr
 rw [hv, <- ht] at h1
 rw [hr]
 unfold ab
 rw [h1, <- Bool.decide_and, <- Bool.decide_or]
 congr 1
 apply propext
 generalize val (ml.take (2 * q)) = lo at *
 generalize 65536 ^ (2 * q) = P at *
 constructor
 . rintro (h | ⟨h, h'⟩)
   . have : P * (p + 1) <= P * top := Nat.mul_le_mul_left _ (by omega)
     rw [Nat.mul_comm p P]
     rw [Nat.mul_add] at this
     omega
   . subst h; rw [Nat.mul_comm]; omega
 . intro h
   by_cases e : p < top
   . exact .inl e
   . refine .inr ?_
     by_cases e2 : top = p
     . subst e2; rw [Nat.mul_comm] at h; exact ⟨rfl, by omega⟩
     . exfalso
       have : P * (top + 1) <= P * p := Nat.mul_le_mul_left _ (by omega)
       rw [Nat.mul_comm p P] at h
       rw [Nat.mul_add] at this
       omega
def Mul (w0 w : World) (x : Nat) (v : Value) (n : Nat) : Prop := ∃ ml, RowU w v ml /\ ml.length = 3 * n /\ (∀ k, ml.getD k 0 < 65536) /\ val ml = x ^ n /\ Tch (fun _ => False) w0 w
theorem limbs_val (x : Nat) : val [x % 65536, x / 65536 % 65536, x / 4294967296] = x := by simp only [val]; omega
theorem limbs_small (x : Nat) (hx : x < 281474976710656) : ∀ k, ([x % 65536, x / 65536 % 65536, x / 4294967296] : List Nat).getD k 0 < 65536
 | 0 => by simp; omega
 | 1 => by simp; omega
 | 2 => by simp; omega
 | k + 3 => by simp
theorem mul_next {w0 w w' : World} {x n : Nat} {ml : List Nat} {e : Ending} (hx : x < 281474976710656) (hl : ml.length = 3 * n) (hv : val ml = x ^ n) (ht : Tch (fun _ => False) w0 w)
 (h : TimesPost w ml [x % 65536, x / 65536 % 65536, x / 4294967296] e w') : ∃ v, e = .returned v /\ Mul w0 w' x v (n + 1) := by
 obtain ⟨v, l, he, hr, hll, hs, hvl, ht'⟩ := h
 exact ⟨v, he, l, hr, by rw [hll, hl]; simp; omega, hs, by rw [hvl, hv, limbs_val, Nat.pow_succ], ht.trans ht'⟩
theorem above_any (x q p : Nat) (hx : x < 281474976710656) (hq1 : 1 <= q) (hq : q <= 3) (hp : p < 1000) (w : World) :
 Calls Tryz.prog 153 #[.int .u64 (x : Int), .int .i64 (q : Int), .int .i64 (p : Int)] w fun e w' => e = .returned (.bool (ab x q p)) /\ Tch (fun _ => False) w w' := by
 have hC := lh (limbs_any x (by omega) w)
 obtain ⟨L, hL⟩ : ∃ L, L = [x % 65536, x / 65536 % 65536, x / 4294967296] := ⟨_, rfl⟩
 rw [<- hL] at hC
 have hw1 : (w.alloc (.cells (nc L) 137)).heap[w.heap.size]? = some (.cells (nc L) 137 (0, 0)) := heap_alloc_at _ _
 have hLl : L.length = 3 := by rw [hL]; rfl
 have hM1 : Mul w (w.alloc (.cells (nc L) 137)) x (.slice (some ⟨w.heap.size, 0, none⟩) 3 3) 1 :=
  ⟨L, by have := RowU.of (cap := 3) hw1; rwa [hLl] at this, by omega, by rw [hL]; exact limbs_small x hx, by rw [hL, limbs_val, Nat.pow_one], (Tch.refl _ _).alloc _⟩
 have hRL : RowU (w.alloc (.cells (nc L) 137)) (.slice (some ⟨w.heap.size, 0, none⟩) 3 3) L := by have := RowU.of (cap := 3) hw1; rwa [hLl] at this
 have hq1i : (1 : Int) <= (q : Int) := by omega
 have hqi : (q : Int) <= 3 := by omega
 have hpi : (p : Int) < 1000 := by omega
 replace hM1 := lh hM1
 replace hRL := lh hRL
 replace hL := lh hL
 clear hw1
 go_enter Tryz.func153, Tryz.ntmps153
 go_wp2_with (go_at_call 176; refine (hC.out).mono ?_; rintro e w1 ⟨rfl, rfl⟩)
 clear hC
 generalize hW : w.alloc (.cells (nc L) 137) = W1 at *
 replace hW := lh hW
 go_loopg [8, 9] (q - 1) (fun g mv i W => ∃ n : Nat, g = q - n /\ 1 <= n /\ n <= q /\ i = .int .i64 n /\ Mul w W x mv n /\ Tch (fun _ => False) W1 W)
 case atStart => exact ⟨1, rfl, by omega, by omega, rfl, hM1.out, Tch.refl _ _⟩
 case round =>
  clear hM1
  obtain ⟨n, hg, hn1, hn, rfl, hM, hT1⟩ := hrel
  subst hg
  by_cases hnl : n < q
  . have hni : (n : Int) < (q : Int) := by omega
    obtain ⟨ml, hr, hl, hs, hv, ht⟩ := hM
    have hC := lh (times_any ml L (by omega) (by omega) hs (by rw [hL.out]; exact limbs_small x hx) _ _ wr hr (hRL.out.tch hT1))
    have hN := lh (fun e w' h => mul_next (w' := w') (e := e) hx hl hv ht (by rw [<- hL.out]; exact h))
    replace hT1 := lh hT1
    clear hr hl hs hv ht
    go_wp2_with (go_at_call 177; refine (hC.out).mono ?_; intro e w1 hpost; have htt := hpost; obtain ⟨v, rfl, hM⟩ := hN.out _ _ hpost; obtain ⟨_, _, _, _, _, _, _, ht9⟩ := htt; replace ht9 := lh ht9; replace hM := lh hM; clear hpost)
    go_roundg (q - (n + 1))
    case measure => omega
    case rel => exact ⟨n + 1, rfl, by omega, by omega, by go_num, hM.out, hT1.out.trans ht9.out⟩
  . have hne : n = q := by omega
    subst hne
    clear hRL hT1
    obtain ⟨ml, ⟨gm, cm, rfl, hcs⟩, hl, hs, hv, ht⟩ := hM
    have hst := lh (show Abv ml n ml.length 0 false from by have := Abv.start ml n hl; rwa [<- hl] at this)
    have hbd := lh (fun (r top : Nat) (rest : Bool) (h : Abv ml n r top rest) => h.bound hl hq hs)
    have hhi := lh (fun (r top : Nat) (rest : Bool) (h : Abv ml n (r + 1) top rest) => Abv.high h hl)
    have hlo := lh (fun (r top : Nat) (rest : Bool) (h : Abv ml n (r + 1) top rest) => Abv.low h hl)
    have hdn := lh (fun (top : Nat) (rest : Bool) (h : Abv ml n 0 top rest) => h.done hl hs hv p)
    have hli : (ml.length : Int) <= 9 := by omega
    have hli3 : (3 : Int) <= (ml.length : Int) := by omega
    have hlH := lh hl
    have hcsH := lh hcs
    have hsH := lh hs
    clear hcs hs hv hl
    replace ht := lh ht
    go_wp2_with fail
    go_loopg [10, 11, 12] ml.length (fun g tv rv i W => ∃ (r top : Nat) (rest : Bool), g = r /\ r <= ml.length /\ tv = .int .u64 top /\ rv = .bool rest /\ i = .int .i64 ((r : Int) - 1) /\ Abv ml n r top rest /\ W = wr)
    case atStart => exact ⟨ml.length, 0, false, rfl, Nat.le_refl _, rfl, rfl, by go_num, hst.out, rfl⟩
    case round =>
     obtain ⟨r', top, rest, hgk, hr, rfl, rfl, rfl, hA, rfl⟩ := hrel
     by_cases hr0 : r' = 0
     . subst hr0
       subst hgk
       have hd := lh (hdn.out top rest hA)
       have hb := hbd.out _ _ _ hA
       clear hA hst
       rw [show ((0 : Nat) : Int) - 1 = -1 from rfl]
       by_cases h1 : p < top
       . have h1i : (p : Int) < (top : Int) := by omega
         have hres := lh (show ab x n p = true from by rw [<- hd.out]; simp [h1])
         go_wp2_with fail
         go_ret
         exact ⟨by rw [hres.out]; rfl, ht.out⟩
       . have h1i : ¬ (p : Int) < (top : Int) := by omega
         by_cases h2 : top = p
         . subst h2
           have hres := lh (show ab x n top = rest from by rw [<- hd.out]; simp)
           cases rest
           . go_wp2_with fail
             go_ret
             exact ⟨by rw [hres.out]; rfl, ht.out⟩
           . go_wp2_with fail
             go_ret
             exact ⟨by rw [hres.out]; rfl, ht.out⟩
         . have h2i : ¬ (top : Int) = (p : Int) := by omega
           have hres := lh (show ab x n p = false from by rw [<- hd.out]; simp [h1, h2])
           go_wp2_with fail
           go_ret
           exact ⟨by rw [hres.out]; rfl, ht.out⟩
     . obtain ⟨r, rfl⟩ : ∃ r, r' = r + 1 := ⟨r' - 1, by omega⟩
       subst hgk
       rw [show (((r + 1 : Nat) : Int) - 1) = (r : Int) from by omega]
       have hcell := hcsH.out r (by omega)
       have hsm := hsH.out r
       have hb := hbd.out _ _ _ hA
       have hbi : (top : Int) < 281474976710656 := by omega
       have hrl : (r : Int) < (ml.length : Int) := by omega
       by_cases h2 : 2 * n <= r
       . have h2i : 2 * (n : Int) <= (r : Int) := by omega
         have hnx := lh (hhi.out _ _ _ hA (by have := hlH.out; omega) h2)
         clear hA
         generalize ml.getD r 0 = mm at *
         have hmi : (mm : Int) < 65536 := by omega
         go_wp2_with fail
         go_roundg r
         case measure => omega
         case rel => exact ⟨r, _, rest, rfl, by omega, by go_num, rfl, by go_num, hnx.out, rfl⟩
       . have h2i : ¬ 2 * (n : Int) <= (r : Int) := by omega
         have hnx := lh (hlo.out _ _ _ hA (by omega))
         clear hA
         generalize ml.getD r 0 = mm at *
         by_cases h3 : 0 < mm
         . have h3i : (0 : Int) < (mm : Int) := by omega
           go_wp2_with fail
           go_roundg r
           case measure => omega
           case rel => exact ⟨r, top, true, rfl, by omega, rfl, rfl, by go_num, by have := hnx.out; rwa [decide_eq_true h3, Bool.or_true] at this, rfl⟩
         . have h3i : ¬ (0 : Int) < (mm : Int) := by omega
           go_wp2_with fail
           go_roundg r
           case measure => omega
           case rel => exact ⟨r, top, rest, rfl, by omega, rfl, rfl, by go_num, by have := hnx.out; rwa [decide_eq_false h3, Bool.or_false] at this, rfl⟩
end Go.Proofs.YtbiioaggilaebaaGreatDoor.Ref
namespace Go.Proofs.YtbiioaggilaebaaGreatDoor.Sha
open Go.RowKit B
def uv (x : W) : Value := .int .u32 (nv x)
def ucells (l : List W) : Array Value := (l.map uv).toArray
theorem ucells_get (l : List W) (i : Nat) (h : i < l.length) : (ucells l)[i]? = some (.int .u32 (nv (l.getD i 0))) := by
 simp [ucells, uv, List.getD_eq_getElem?_getD, List.getElem?_eq_getElem h]
theorem ucells_set (l : List W) (i : Nat) (x : W) : (ucells l).setIfInBounds i (.int .u32 (nv x)) = ucells (l.set i x) := by
 simp only [ucells, List.setIfInBounds_toArray, List.map_set]; rfl
theorem nv_shl8 (a : W) : nv a * 256 % 4294967296 = nv (a <<< 8) := nv_shl a 8
theorem nv_shr3 (a : W) : nv a / (8 : Int) = nv (a >>> 3) := nv_shr a 3
theorem nv_shr10 (a : W) : nv a / (1024 : Int) = nv (a >>> 10) := nv_shr a 10
theorem byte_mod (c : UInt8) : (c.toNat : Int) % 4294967296 = (c.toNat : Int) := by have := c.toNat_lt; omega
def sofar (full : List W) (t : Nat) : List W := full.take t ++ List.replicate (64 - t) 0
theorem sofar_length (full : List W) (t : Nat) (h : full.length = 64) (ht : t <= 64) : (sofar full t).length = 64 := by simp [sofar, h]; omega
theorem sofar_at (full : List W) (t j : Nat) (h : full.length = 64) (ht : t <= 64) (hj : j < t) : (sofar full t).getD j 0 = full.getD j 0 := by
 simp only [sofar, List.getD_eq_getElem?_getD]
 rw [List.getElem?_append_left (by simp; omega), List.getElem?_take, if_pos hj]
theorem sofar_zero (full : List W) (t j : Nat) (h : full.length = 64) (ht : t <= 64) (hj : t <= j) : (sofar full t).getD j 0 = 0 := by
 simp only [sofar, List.getD_eq_getElem?_getD]
 rw [List.getElem?_append_right (by simp; omega), List.getElem?_replicate]
 split <;> rfl
theorem sofar_succ (full : List W) (t : Nat) (h : full.length = 64) (ht : t < 64) : (sofar full t).set t (full.getD t 0) = sofar full (t + 1) := by
 apply List.ext_getElem?
 intro j
 have hl1 := sofar_length full t h (by omega)
 have hl2 := sofar_length full (t + 1) h (by omega)
 rw [List.getElem?_set]
 by_cases hj : j < 64
 . by_cases e : t = j
   . subst e
     rw [if_pos rfl, if_pos (by omega)]
     have := sofar_at full (t + 1) t h (by omega) (by omega)
     rw [List.getD_eq_getElem?_getD, List.getElem?_eq_getElem (by omega)] at this
     rw [List.getElem?_eq_getElem (by omega)]
     simpa using this.symm
   . rw [if_neg e, List.getElem?_eq_getElem (by omega), List.getElem?_eq_getElem (by omega)]
     congr 1
     rcases Nat.lt_or_ge j t with hlt | hge
     . have a := sofar_at full t j h (by omega) hlt
       have b := sofar_at full (t + 1) j h (by omega) (by omega)
       rw [List.getD_eq_getElem?_getD, List.getElem?_eq_getElem (by omega)] at a b
       simp only [Option.getD_some] at a b
       rw [a, b]
     . have a := sofar_zero full t j h (by omega) hge
       have b := sofar_zero full (t + 1) j h (by omega) (by omega)
       rw [List.getD_eq_getElem?_getD, List.getElem?_eq_getElem (by omega)] at a b
       simp only [Option.getD_some] at a b
       rw [a, b]
 . rw [if_neg (by omega), List.getElem?_eq_none (by omega), List.getElem?_eq_none (by omega)]
def part (b : List UInt8) (t : Nat) : Nat -> W
 | 0 => 0
 | i + 1 => (part b t i <<< 8) ||| BitVec.ofNat 32 (b.getD (4 * t + i) 0).toNat
theorem part_four (b : List UInt8) (t : Nat) : part b t 4 = word b t := by
 unfold part part part part part word
 simp only [Nat.add_zero]
 rw [show (0 : W) <<< 8 ||| BitVec.ofNat 32 (b.getD (4 * t) 0).toNat = BitVec.ofNat 32 (b.getD (4 * t) 0).toNat from by simp]
theorem sched_prefix (m : List W) : ∀ n k, n <= k -> ∃ r, sched m k = sched m n ++ r
 | n, 0, h => by obtain rfl : n = 0 := by omega
                 exact ⟨[], by simp⟩
 | n, k + 1, h => by
  by_cases e : n = k + 1
  . subst e; exact ⟨[], by simp⟩
  . obtain ⟨r, hr⟩ := sched_prefix m n k (by omega)
    exact ⟨r ++ [nextW (sched m k)], by rw [sched, hr]; simp⟩
theorem sched_at (m : List W) (n k j : Nat) (h : n <= k) (hj : j < m.length + n) : (sched m k).getD j 0 = (sched m n).getD j 0 := by
 obtain ⟨r, hr⟩ := sched_prefix m n k h
 have := sched_length m n
 rw [hr, List.getD_eq_getElem?_getD, List.getElem?_append_left (by omega), <- List.getD_eq_getElem?_getD]
theorem sched_next (m : List W) (t : Nat) (hm : m.length = 16) (h0 : 16 <= t) (h1 : t < 64) :
 (sched m 48).getD t 0 = (sched m 48).getD (t - 16) 0 + s0 ((sched m 48).getD (t - 15) 0) + (sched m 48).getD (t - 7) 0 + s1 ((sched m 48).getD (t - 2) 0) := by
 have hl := sched_length m (t - 16)
 have e := fun j (hj : j < t) => sched_at m (t - 16) 48 j (by omega) (by omega)
 rw [e (t - 16) (by omega), e (t - 15) (by omega), e (t - 7) (by omega), e (t - 2) (by omega), sched_at m (t - 16 + 1) 48 t (by omega) (by omega), sched, List.getD_eq_getElem?_getD, List.getElem?_append_right (by omega)]
 rw [show t - (sched m (t - 16)).length = 0 from by omega]
 simp only [List.getElem?_cons_zero, Option.getD_some, nextW, hl]
 rw [show m.length + (t - 16) = t from by omega]
theorem words_length (b : List UInt8) : (words b).length = 16 := by simp [words]
theorem full_word (b : List UInt8) (t : Nat) (h : t < 16) : (sched (words b) 48).getD t 0 = word b t := by
 rw [sched_at (words b) 0 48 t (by omega) (by rw [words_length]; omega)]
 simp [sched, words, List.getD_eq_getElem?_getD, List.getElem?_range h]
theorem nv_add4 (a b c d : W) : (nv a + nv b + nv c + nv d) % 4294967296 = nv (a + b + c + d) := by
 rw [<- nv_add, <- nv_add, <- nv_add]; omega
theorem sched_val (x16 x15 x7 x2 : W) : (nv x16 + bits .xor .u32 (bits .xor .u32 (nv (ror x15 7)) (nv (ror x15 18))) (nv x15 / 8) + nv x7 + bits .xor .u32 (bits .xor .u32 (nv (ror x2 17)) (nv (ror x2 19))) (nv x2 / 1024)) % 4294967296 = nv (x16 + s0 x15 + x7 + s1 x2) := by
 rw [nv_shr3, nv_shr10, nv_xor, nv_xor, nv_xor, nv_xor, nv_add4]; rfl
def Arr (w : World) (b : Nat) (l : List W) : Prop := w.heap[b]? = some (.cells (ucells l) 204 (0, 0))
theorem Arr.cell {w : World} {b : Nat} {l : List W} (h : Arr w b l) (i : Nat) (hi : i < l.length) : w.cell? ⟨b, i, none⟩ = some (.int .u32 (nv (l.getD i 0))) := by
 rw [cell_of h, ucells_get l i hi]
theorem Arr.set {w : World} {b : Nat} {l : List W} (h : Arr w b l) (i : Nat) (x : W) : Arr (w.setCell ⟨b, i, none⟩ (.int .u32 (nv x))) b (l.set i x) := by
 unfold Arr
 rw [heap_set_some h, ucells_set]
def St (w : World) (hb : Nat) (l : List W) : Prop := w.heap[hb]? = some (.cells (ucells l) 181 (0, 0))
theorem st_cells {w : World} {hb : Nat} {t : TypeId} {x0 x1 x2 x3 x4 x5 x6 x7 : W} (h : w.heap[hb]? = some (.cells (ucells [x0, x1, x2, x3, x4, x5, x6, x7]) t (0, 0))) :
 w.cell? ⟨hb, 0, none⟩ = some (.int .u32 (nv x0)) /\ w.cell? ⟨hb, 1, none⟩ = some (.int .u32 (nv x1)) /\ w.cell? ⟨hb, 2, none⟩ = some (.int .u32 (nv x2)) /\ w.cell? ⟨hb, 3, none⟩ = some (.int .u32 (nv x3)) /\
 w.cell? ⟨hb, 4, none⟩ = some (.int .u32 (nv x4)) /\ w.cell? ⟨hb, 5, none⟩ = some (.int .u32 (nv x5)) /\ w.cell? ⟨hb, 6, none⟩ = some (.int .u32 (nv x6)) /\ w.cell? ⟨hb, 7, none⟩ = some (.int .u32 (nv x7)) := by
 refine ⟨?_, ?_, ?_, ?_, ?_, ?_, ?_, ?_⟩ <;> rw [cell_of h] <;> rfl
def Run (w0 : World) (vb : Nat) (w : World) (m v : List W) : Prop := Arr w w0.heap.size m /\ St w vb v /\ Below w0.heap.size w0 w /\ w0.heap.size < vb
theorem run_start {w0 w : World} {m : List W} (h : Arr w w0.heap.size m /\ Below w0.heap.size w0 w) (v : List W) : Run w0 w.heap.size (w.alloc (.cells (ucells v) 181)) m v :=
 ⟨(heap_alloc_lt _ _ _ (heap_lt h.1)).trans h.1, heap_alloc_at _ _, h.2.alloc h.2.size _, heap_lt h.1⟩
theorem eight {l : List W} (h : l.length = 8) : ∃ y0 y1 y2 y3 y4 y5 y6 y7, l = [y0, y1, y2, y3, y4, y5, y6, y7] := by
 match l, h with
 | [a, b, c, d, e, f, g, i], _ => exact ⟨a, b, c, d, e, f, g, i, rfl⟩
theorem rounds_length (ks ws h : List W) (hh : h.length = 8) : ∀ k, (rounds ks ws h k).length = 8
 | 0 => hh
 | k + 1 => rfl
theorem round_next (ks ws h : List W) (k : Nat) {y0 y1 y2 y3 y4 y5 y6 y7 : W} (hv : rounds ks ws h k = [y0, y1, y2, y3, y4, y5, y6, y7]) :
 rounds ks ws h (k + 1) = [y7 + S1 y4 + ch y4 y5 y6 + ks.getD k 0 + ws.getD k 0 + (S0 y0 + maj y0 y1 y2), y0, y1, y2, y3 + (y7 + S1 y4 + ch y4 y5 y6 + ks.getD k 0 + ws.getD k 0), y4, y5, y6] := by
 rw [rounds, hv]; rfl
theorem k_same (t : Nat) (ht : t < 64) (w : World) :
 Calls Tryz.prog 142 #[.int .i64 t] w fun e w' => e = .returned (.int .u32 (nv (K.getD t 0))) /\ w' = w :=
 (k_any t ht w).mono fun _ _ h => ⟨h.1, h.2.symm⟩
theorem nv_not (x : W) : bits .xor .u32 IntKind.u32.max (nv x) = nv (~~~x) := by
 rw [show IntKind.u32.max = nv (BitVec.allOnes 32) from rfl, nv_xor, BitVec.allOnes_xor]
theorem one_val (y4 y5 y6 y7 kk wk : W) : IntKind.u32.wrap (IntKind.u32.wrap (IntKind.u32.wrap (IntKind.u32.wrap (nv y7 + bits .xor .u32 (bits .xor .u32 (nv (ror y4 6)) (nv (ror y4 11))) (nv (ror y4 25))) + bits .xor .u32 (bits .and .u32 (nv y4) (nv y5)) (bits .and .u32 (bits .xor .u32 IntKind.u32.max (nv y4)) (nv y6))) + nv kk) + nv wk) = nv (y7 + S1 y4 + ch y4 y5 y6 + kk + wk) := by
 rw [nv_not, nv_and, nv_and, nv_xor, nv_xor, nv_xor, nv_addw, nv_addw, nv_addw, nv_addw]; rfl
theorem two_val (y0 y1 y2 : W) : IntKind.u32.wrap (bits .xor .u32 (bits .xor .u32 (nv (ror y0 2)) (nv (ror y0 13))) (nv (ror y0 22)) + bits .xor .u32 (bits .xor .u32 (bits .and .u32 (nv y0) (nv y1)) (bits .and .u32 (nv y0) (nv y2))) (bits .and .u32 (nv y1) (nv y2))) = nv (S0 y0 + maj y0 y1 y2) := by
 rw [nv_and, nv_and, nv_and, nv_xor, nv_xor, nv_xor, nv_xor, nv_addw]; rfl
theorem copy_src {w : World} {vb : Nat} {y0 y1 y2 y3 y4 y5 y6 y7 : W} (h : St w vb [y0, y1, y2, y3, y4, y5, y6, y7]) :
 ∀ j v, ([uv y0, uv y1, uv y2, uv y3, uv y4, uv y5, uv y6] : List Value)[j]? = some v -> w.cell? ((⟨vb, 0, none⟩ : Addr).add j) = some v := by
 intro j v hj
 rw [add0, cell_of h]
 match j, hj with
 | 0, hj | 1, hj | 2, hj | 3, hj | 4, hj | 5, hj | 6, hj => exact hj
theorem run_copied {w0 w w4 : World} {vb : Nat} {m : List W} {y0 y1 y2 y3 y4 y5 y6 y7 : W} (n : Nat) (h : Run w0 vb w m [y0, y1, y2, y3, y4, y5, y6, y7])
 (h1 : Hid (w4.heap[vb]? = some (.cells (splice [uv y0, uv y1, uv y2, uv y3, uv y4, uv y5, uv y6, uv y7] 1 [uv y0, uv y1, uv y2, uv y3, uv y4, uv y5, uv y6]).toArray 181 (0, 0))))
 (h2 : Below vb w w4) : Run w0 vb w4 m [y0, y0, y1, y2, y3, y4, y5, y6] := by
 obtain ⟨a, b, c, d⟩ := h
 refine ⟨(h2.block _ d).trans a, h1, ⟨h2.os.trans c.os, h2.tape.trans c.tape, h2.output.trans c.output, Nat.le_trans c.size h2.size, fun k hk => (h2.block k (by omega)).trans (c.block k hk)⟩, d⟩
theorem run_two {w0 w : World} {vb : Nat} {m : List W} {y0 y1 y2 y3 y4 y5 y6 y7 p q : W} {A B : Int} (h : Run w0 vb w m [y0, y1, y2, y3, y4, y5, y6, y7]) (hA : A = nv p) (hB : B = nv q) :
 Run w0 vb ((w.setCell ⟨vb, 0, none⟩ (.int .u32 A)).setCell ⟨vb, 4, none⟩ (.int .u32 B)) m [p, y1, y2, y3, q, y5, y6, y7] := by
 subst hA; subst hB
 obtain ⟨a, b, c, d⟩ := h
 refine ⟨?_, ?_, (c.setCell (Nat.le_of_lt d) _).setCell (Nat.le_of_lt d) _, d⟩
 . unfold Arr
   rw [heap_set_ne _ _ _ _ (Nat.ne_of_lt d), heap_set_ne _ _ _ _ (Nat.ne_of_lt d)]; exact a
 . unfold St
   rw [heap_set_some (heap_set_some b _ _), ucells_set, ucells_set]; rfl
def addTo (xs ys : List W) (j : Nat) : List W := (List.range 8).map fun i => if i < j then xs.getD i 0 + ys.getD i 0 else xs.getD i 0
theorem addTo_length (xs ys : List W) (j : Nat) : (addTo xs ys j).length = 8 := by simp [addTo]
theorem addTo_at (xs ys : List W) (j : Nat) (h : j < 8) : (addTo xs ys j).getD j 0 = xs.getD j 0 := by
 simp [addTo, List.getD_eq_getElem?_getD, List.getElem?_range h]
theorem addTo_set (xs ys : List W) (j : Nat) (h : j < 8) : (addTo xs ys j).set j (xs.getD j 0 + ys.getD j 0) = addTo xs ys (j + 1) := by
 apply List.ext_getElem?
 intro i
 rw [List.getElem?_set]
 by_cases e : j = i
 . subst e
   rw [if_pos rfl, if_pos (by rw [addTo_length]; exact h)]
   simp only [addTo, List.getElem?_map, List.getElem?_range h, Option.map_some, if_pos (Nat.lt_succ_self j)]
 . rw [if_neg e]
   by_cases hi : i < 8
   . simp only [addTo, List.getElem?_map, List.getElem?_range hi, Option.map_some]
     congr 1
     by_cases h1 : i < j
     . rw [if_pos h1, if_pos (by omega)]
     . rw [if_neg h1, if_neg (by omega)]
   . rw [List.getElem?_eq_none (by rw [addTo_length]; omega), List.getElem?_eq_none (by rw [addTo_length]; omega)]
theorem addTo_zero (x0 x1 x2 x3 x4 x5 x6 x7 : W) (ys : List W) : addTo [x0, x1, x2, x3, x4, x5, x6, x7] ys 0 = [x0, x1, x2, x3, x4, x5, x6, x7] := rfl
theorem addTo_end (ks xs ms ys : List W) (h : rounds ks (sched ms 48) xs 64 = ys) : addTo xs ys 8 = compress ks xs ms := by
 unfold addTo compress
 rw [h]
 apply List.map_congr_left
 intro i hi
 rw [if_pos (List.mem_range.1 hi)]
def Fin (w0 : World) (hb vb : Nat) (w : World) (xs ys : List W) (j : Nat) : Prop :=
 St w hb (addTo xs ys j) /\ St w vb ys /\ Tch (· = hb) w0 w /\ hb < w0.heap.size /\ w0.heap.size < vb
theorem fin_start {w0 w : World} {hb vb : Nat} {m : List W} {x0 x1 x2 x3 x4 x5 x6 x7 : W} {ys : List W} (hs : St w0 hb [x0, x1, x2, x3, x4, x5, x6, x7]) (h : Run w0 vb w m ys) :
 Fin w0 hb vb w [x0, x1, x2, x3, x4, x5, x6, x7] ys 0 := by
 obtain ⟨a, b, c, d⟩ := h
 exact ⟨by rw [addTo_zero]; exact (c.block hb (heap_lt hs)).trans hs, b, Tch.of_below c fun k h1 h2 => absurd h2 (by omega), heap_lt hs, d⟩
theorem Arr.cell' {w : World} {b : Nat} {l : List W} (h : St w b l) (i : Nat) (hi : i < l.length) : w.cell? ⟨b, i, none⟩ = some (.int .u32 (nv (l.getD i 0))) := by
 rw [cell_of h, ucells_get l i hi]
theorem fin_next {w0 w : World} {hb vb j : Nat} {xs ys : List W} {A : Int} (h : Fin w0 hb vb w xs ys j) (hj : j < 8) (hA : A = nv (xs.getD j 0 + ys.getD j 0)) (n : Nat) :
 Fin w0 hb vb ((w.setCell ⟨hb, j, none⟩ (.int .u32 A)).drewN n) xs ys (j + 1) := by
 subst hA
 obtain ⟨a, b, c, d, e⟩ := h
 refine ⟨?_, ?_, (c.setCell _ (fun _ => rfl) _).drewN n, d, e⟩
 . show (w.setCell ⟨hb, j, none⟩ _).heap[hb]? = _
   rw [heap_set_some a, ucells_set, addTo_set _ _ _ hj]
 . show (w.setCell ⟨hb, j, none⟩ _).heap[vb]? = _
   rw [heap_set_ne _ _ _ _ (show vb ≠ hb from by omega)]; exact b
theorem fin_end {w0 w : World} {hb vb : Nat} {ks xs ys ms : List W} (h : Fin w0 hb vb w xs ys 8) (he : rounds ks (sched ms 48) xs 64 = ys) :
 St w hb (compress ks xs ms) /\ Tch (· = hb) w0 w := ⟨addTo_end ks xs ms ys he ▸ h.1, h.2.2.1⟩
theorem turn_same (x : W) (n : Int) (hn : Cnt n) (w : World) :
 Calls Tryz.prog 141 #[.int .u32 (nv x), .int .i64 n] w fun e w' => e = .returned (.int .u32 (nv (ror x n.toNat))) /\ w' = w :=
 (turn_any x n hn w).mono fun _ _ h => ⟨h.1, h.2.symm⟩
theorem getD_setW (l : List W) (i : Nat) (x : W) (h : i < l.length) : (l.set i x).getD i 0 = x := by
 simp [List.getD_eq_getElem?_getD, h]
theorem sofar_set0 (full : List W) (t : Nat) (h : full.length = 64) (ht : t < 64) : (sofar full t).set t 0 = sofar full t := by
 have hl := sofar_length full t h (by omega)
 apply List.ext_getElem?
 intro j
 rw [List.getElem?_set]
 by_cases e : t = j
 . subst e
   rw [if_pos rfl, if_pos (by omega)]
   have := sofar_zero full t t h (by omega) (by omega)
   rw [List.getD_eq_getElem?_getD, List.getElem?_eq_getElem (by omega)] at this
   rw [List.getElem?_eq_getElem (by omega)]
   simpa using this.symm
 . rw [if_neg e]
theorem str_idx {P : Program} {t : TypeId} (ht : P.underlying t = some .string) (s : ByteArray) (k : Nat) (hk : k < s.size) (w : World) :
 (Instr.index t (.string s) (.int .i64 (k : Int))).run P w = .ok (.int .u8 ((s.data.toList.getD k 0).toNat : Int)) w := by
 rw [run_index_string w t s .i64 k ht, dif_pos ⟨by omega, by omega⟩]
 have e : s.data.toList.getD k 0 = s[k]'hk := by
  rw [List.getD_eq_getElem?_getD, Array.getElem?_toList, Array.getElem?_eq_getElem hk]; rfl
 rw [e]; rfl
def Making (w0 w : World) (l : List W) : Prop := Arr w w0.heap.size l /\ Below w0.heap.size w0 w
def zeros64 : List W := List.replicate 64 0
theorem making_start (w : World) (full : List W) (hf : full.length = 64) : Making w (w.alloc (.cells (ucells zeros64) 204)) (sofar full 0) :=
 ⟨by show _ = _; rw [heap_alloc_at]; simp [sofar, zeros64], (Below.refl _ _).alloc (Nat.le_refl _) _⟩
theorem making_set {w0 w : World} {l : List W} (h : Making w0 w l) (i : Nat) (x : W) : Making w0 (w.setCell ⟨w0.heap.size, i, none⟩ (.int .u32 (nv x))) (l.set i x) :=
 ⟨h.1.set i x, h.2.setCell (Nat.le_refl _) _⟩
theorem making_drew {w0 w : World} {l : List W} (h : Making w0 w l) (n : Nat) : Making w0 (w.drewN n) l := ⟨h.1, ⟨h.2.os, h.2.tape, h.2.output, h.2.size, h.2.block⟩⟩
theorem making_val {w0 w : World} {l : List W} (h : Making w0 w l) (i : Nat) (x : W) (v : Int) (hv : v = nv x) (n : Nat) : Making w0 ((w.setCell ⟨w0.heap.size, i, none⟩ (.int .u32 v)).drewN n) (l.set i x) := by
 subst hv; exact making_drew (making_set h i x) n
theorem wrap_small {x : Int} (h : 0 <= x) (h' : x < 100) : IntKind.i64.wrap x = x := by
 rw [IntKind.wrap_i64]; omega
theorem block_any (hb : Nat) (x0 x1 x2 x3 x4 x5 x6 x7 : W) (b : ByteArray) (hbl : b.size = 64) (w : World) (hSt : St w hb [x0, x1, x2, x3, x4, x5, x6, x7]) :
 Calls Tryz.prog 111 #[.pointer (some ⟨hb, 0, none⟩), .string b] w fun e w' => e = .returned (.tuple #[]) /\ St w' hb (compress K [x0, x1, x2, x3, x4, x5, x6, x7] (words b.data.toList)) /\ Tch (· = hb) w w' := by
 have hz : ∀ W : World, (zeroValue 204).run Tryz.prog W = .ok (.agg (ucells zeros64)) W := fun _ => by kernel_rfl
 obtain ⟨full, hfull⟩ : ∃ full, full = sched (words b.data.toList) 48 := ⟨_, rfl⟩
 have hfl : full.length = 64 := by rw [hfull, sched_length, words_length]
 have hst := lh (making_start w full hfl)
 have hF := lh hfull
 have hfl := lh hfl
 have hbl := lh hbl
 have hSt := lh hSt
 clear hfull
 go_enter Tryz.func111, Tryz.ntmps111
 go_wp2_with fail
 go_loopg [16] 64 (fun g i wr => ∃ t : Nat, g = 64 - t /\ t <= 64 /\ i = .int .i64 t /\ Making w wr (sofar full t))
 case atStart => exact ⟨0, rfl, by omega, rfl, hst.out⟩
 case round =>
  clear hst hz
  obtain ⟨t, hg, ht, rfl, hm⟩ := hrel
  subst hg
  by_cases htl : t < 64
  . by_cases h16 : t < 16
    . have hm := lh hm
      have hi16 : (t : Int) < 16 := by omega
      have hi64 : (t : Int) < 64 := by omega
      go_wp2_with fail
      go_loopg [21] 4 (fun g i wi => ∃ j : Nat, g = 4 - j /\ j <= 4 /\ i = .int .i64 j /\ Making w wi ((sofar full t).set t (part b.data.toList t j)))
      case atStart => exact ⟨0, rfl, by omega, rfl, by
       have : (sofar full t).set t (part b.data.toList t 0) = sofar full t := sofar_set0 full t hfl.out htl
       rw [this]; exact hm.out⟩
      case round =>
       clear hm
       obtain ⟨j, hg, hj, rfl, hm⟩ := hrel
       subst hg
       have hsl := sofar_length full t hfl.out (by omega)
       by_cases hjl : j < 4
       . have hc := hm.1.cell t (by rw [List.length_set, hsl]; exact htl)
         have hfr := fr_of hm.1 t
         rw [getD_setW _ _ _ (by rw [hsl]; exact htl)] at hc
         have hix := str_idx (P := Tryz.prog) Tryz.underlying9 b (4 * t + j) (by have := hbl.out; omega)
         rw [show ((4 * t + j : Nat) : Int) = 4 * (t : Int) + (j : Int) from by omega] at hix
         have hjl4 : (j : Int) < 4 := by omega
         have hfin : ∀ v : Int, v = nv (part b.data.toList t (j + 1)) -> Making w ((wr.setCell ⟨w.heap.size, t, none⟩ (.int .u32 v)).drewN 1) ((sofar full t).set t (part b.data.toList t (j + 1))) := fun v hv => by
          have := making_val hm t (part b.data.toList t (j + 1)) v hv 1
          rwa [List.set_set] at this
         have hfinH := lh hfin
         obtain ⟨pj, hpj⟩ : ∃ x, part b.data.toList t j = x := ⟨_, rfl⟩
         obtain ⟨c, hcc⟩ : ∃ x, b.data.toList.getD (4 * t + j) 0 = x := ⟨_, rfl⟩
         have hP := lh (show part b.data.toList t (j + 1) = (pj <<< 8) ||| BitVec.ofNat 32 c.toNat from by rw [part, hpj, hcc])
         rw [hpj] at hc
         rw [hcc] at hix
         clear hm hfin hsl hpj hcc
         go_wp2
         go_region
         go_wp2
         go_roundg (4 - (j + 1))
         case measure => omega
         case rel => exact ⟨j + 1, rfl, by omega, by go_num, hfinH.out _ (by rw [hP.out, byte_mod, <- nv_byte]; congr 1; exact nv_shl8 pj)⟩
       . have hj4 : j = 4 := by omega
         subst hj4
         have hm1 := lh (show Making w wr (sofar full (t + 1)) from by
          rw [part_four, <- full_word _ _ h16, <- hF.out, sofar_succ full t hfl.out htl] at hm; exact hm)
         clear hm hsl
         go_wp2
         go_roundg (64 - (t + 1))
         case measure => omega
         case rel => exact ⟨t + 1, rfl, by omega, by go_num, hm1.out⟩
    . have h16' : ¬ (t : Int) < 16 := by omega
      have hi64 : (t : Int) < 64 := by omega
      have hsl := sofar_length full t hfl.out (by omega)
      have hc16 := hm.1.cell (t - 16) (by omega)
      have hc15 := hm.1.cell (t - 15) (by omega)
      have hc7 := hm.1.cell (t - 7) (by omega)
      have hc2 := hm.1.cell (t - 2) (by omega)
      have hct := hm.1.cell t (by omega)
      have hfr := fr_of hm.1 t
      rw [sofar_at full t _ hfl.out (by omega) (by omega)] at hc16 hc15 hc7 hc2
      have hnext := sched_next (words b.data.toList) t (words_length _) (by omega) htl
      rw [<- hF.out] at hnext
      have hm := lh hm
      have hnextH := lh hnext
      clear hsl hnext
      generalize full.getD (t - 16) 0 = x16 at *
      generalize full.getD (t - 15) 0 = x15 at *
      generalize full.getD (t - 7) 0 = x7 at *
      generalize full.getD (t - 2) 0 = x2 at *
      go_wp2_with fail
      go_quiet (fail)
      go_wp2_with fail
      have hw16 : IntKind.i64.wrap ((t : Int) - 16) = ((t - 16 : Nat) : Int) := by rw [show (t : Int) - 16 = ((t - 16 : Nat) : Int) from by omega]; exact wrap_small (by omega) (by omega)
      have hw7 : IntKind.i64.wrap ((t : Int) - 7) = ((t - 7 : Nat) : Int) := by rw [show (t : Int) - 7 = ((t - 7 : Nat) : Int) from by omega]; exact wrap_small (by omega) (by omega)
      have hb16 : (((t - 16 : Nat) : Int) < 64) = True := eq_true (by omega)
      have hb7 : (((t - 7 : Nat) : Int) < 64) = True := eq_true (by omega)
      have hbt : ((t : Int) < 64) = True := eq_true (by omega)
      refine wp_region_still_tail 29 (by kernel_rfl) (by kernel_rfl) ?_
      change wpStill _ _ (wr.drewN nq).drew _ _ _
      simp only [List.take_succ_cons, List.take_zero, List.drop_succ_cons, List.drop_zero]
      repeat (first | still_step | still_call ((turn_same _ _ (by unfold Cnt; omega) _)))
      refine wpStill_nil ?_
      change wpList _ _ _ _ _ (wr.drewN nq).drew
      go_wp2
      go_roundg (64 - (t + 1))
      case measure => omega
      case rel =>
       refine ⟨t + 1, rfl, by omega, by go_num, ?_⟩
       have := making_val (making_drew hm.out (nq + 1)) t (full.getD t 0) _ ((sched_val x16 x15 x7 x2).trans (congrArg nv hnextH.out.symm)) 0
       rwa [sofar_succ full t hfl.out htl] at this
  . have ht64 : t = 64 := by omega
    subst ht64
    have hf64 : sofar full 64 = full := by unfold sofar; rw [List.take_of_length_le (by rw [hfl.out]; omega)]; simp
    rw [hf64] at hm
    have hH := hm.2.block hb (heap_lt hSt.out)
    rw [hSt.out] at hH
    have hmH := lh hm
    clear hm hf64
    obtain ⟨hc0, hc1, hc2, hc3, hc4, hc5, hc6, hc7⟩ := st_cells hH
    clear hH
    go_wp2
    clear hc0 hc1 hc2 hc3 hc4 hc5 hc6 hc7
    have hst3 := lh (run_start hmH.out [x0, x1, x2, x3, x4, x5, x6, x7])
    generalize wr.heap.size = vb at hst3 ⊢
    go_loopg [80] 64 (fun g i W => ∃ k : Nat, g = 64 - k /\ k <= 64 /\ i = .int .i64 k /\ Run w vb W full (rounds K full [x0, x1, x2, x3, x4, x5, x6, x7] k))
    case atStart => exact ⟨0, rfl, by omega, rfl, hst3.out⟩
    case round =>
     clear hst3 hmH
     obtain ⟨k, hg, hk, rfl, hr⟩ := hrel
     subst hg
     by_cases hkl : k < 64
     . obtain ⟨y0, y1, y2, y3, y4, y5, y6, y7, hv⟩ := eight (rounds_length K full [x0, x1, x2, x3, x4, x5, x6, x7] rfl k)
       have hnx := round_next K full [x0, x1, x2, x3, x4, x5, x6, x7] k hv
       rw [hv] at hr
       obtain ⟨hc0, hc1, hc2, hc3, hc4, hc5, hc6, hc7⟩ := st_cells hr.2.1
       have hcm := hr.1.cell k (by rw [hfl.out]; exact hkl)
       have hfr := fr_of hr.2.1
       have hKc := fun W => k_same k hkl W
       have hnxH := lh hnx
       have hrH := lh hr
       have hk64 : (k : Int) < 64 := by omega
       clear hv hnx hr
       generalize full.getD k 0 = wk at *
       generalize K.getD k 0 = kk at *
       go_wp2_with fail
       go_quiet (fail)
       go_wp2_with fail
       refine wp_region_still_lit (by kernel_rfl) (by kernel_rfl) ?_
       change wpStill _ _ (wr.drewN nq).drew _ _ _
       repeat (first | still_step | still_call ((turn_same _ _ (by unfold Cnt; omega) _)) | still_call (hKc _))
       refine wpStill_nil ?_
       go_wp2_with fail
       refine wp_region_still_lit (by kernel_rfl) (by kernel_rfl) ?_
       change wpStill _ _ (wr.drewN (nq + 1)).drew _ _ _
       repeat (first | still_step | still_call ((turn_same _ _ (by unfold Cnt; omega) _)))
       refine wpStill_nil ?_
       go_wp2_with fail
       rw [one_val, two_val]
       change Code.wp _ _ _ _ (wr.drewN (nq + 2))
       generalize y7 + S1 y4 + ch y4 y5 y6 + kk + wk = one at *
       generalize S0 y0 + maj y0 y1 y2 = two at *
       have hvb := hrH.out.2.1
       have hrun := lh (fun w4 h1 h2 => run_copied (w4 := w4) (nq + 2) hrH.out h1 h2)
       clear hc0 hc1 hc2 hc3 hc4 hc5 hc6 hc7 hcm hfr hKc
       go_cut [] (fun W => Run w vb W full [y0, y0, y1, y2, y3, y4, y5, y6])
       case first =>
        go_region_law ((refine step_copy_splice rfl (.tmp 140) (.tmp 141) 135 135 rfl 138 (by kernel_rfl) (by kernel_rfl) (some ⟨vb, 1, none⟩) (some ⟨vb, 0, none⟩) 7 7 7 8 rfl rfl vb 1 [uv y0, uv y1, uv y2, uv y3, uv y4, uv y5, uv y6, uv y7] 181 hvb [uv y0, uv y1, uv y2, uv y3, uv y4, uv y5, uv y6] rfl (fun _ => ⟨rfl, _, rfl, copy_src hvb⟩) (by simp) (by simp [uv, Value.oneCell']) vb wr ⟨rfl, rfl, rfl, Nat.le_refl _, fun _ _ => rfl⟩ (Nat.le_refl _) ?_; intro w4 hg4 hb4))
        all_goals (try go_wp2_with fail)
        all_goals go_meet
        all_goals exact hrun.out _ hg4 hb4
       case rest =>
        clear hrun hvb hrH
        obtain ⟨hc0, hc1, hc2, hc3, hc4, hc5, hc6, hc7⟩ := st_cells hcut.2.1
        have hfr := fr_of hcut.2.1
        have hnext := lh (fun A B hA hB => run_two hcut (p := one + two) (q := y3 + one) (A := A) (B := B) hA hB)
        clear hcut hc1 hc2 hc3 hc5 hc6 hc7
        go_wp2
        go_roundg (64 - (k + 1))
        case measure => omega
        case rel => exact ⟨k + 1, rfl, by omega, by go_num, by rw [hnxH.out]; exact hnext.out _ _ (nv_add _ _) (nv_add _ _)⟩
     . have hk64 : k = 64 := by omega
       subst hk64
       obtain ⟨y0, y1, y2, y3, y4, y5, y6, y7, hv⟩ := eight (rounds_length K full [x0, x1, x2, x3, x4, x5, x6, x7] rfl 64)
       rw [hv] at hr
       have hvH := lh hv
       have hst4 := lh (fin_start hSt.out hr)
       clear hr hv
       go_wp2_with fail
       go_loopg [153] 8 (fun g i W => ∃ j : Nat, g = 8 - j /\ j <= 8 /\ i = .int .i64 j /\ Fin w hb vb W [x0, x1, x2, x3, x4, x5, x6, x7] [y0, y1, y2, y3, y4, y5, y6, y7] j)
       case atStart => exact ⟨0, rfl, by omega, rfl, hst4.out⟩
       case round =>
        clear hst4
        obtain ⟨j, hg, hj, rfl, hr⟩ := hrel
        subst hg
        by_cases hjl : j < 8
        . have hj8 : (j : Int) < 8 := by omega
          have hcx := Arr.cell' hr.1 j (by rw [addTo_length]; exact hjl)
          rw [addTo_at _ _ _ hjl] at hcx
          have hcy := Arr.cell' hr.2.1 j hjl
          have hfr := fr_of hr.1
          have hrH := lh (fun A hA n => fin_next (A := A) hr hjl hA n)
          clear hr
          generalize ([x0, x1, x2, x3, x4, x5, x6, x7] : List W).getD j 0 = xj at *
          generalize ([y0, y1, y2, y3, y4, y5, y6, y7] : List W).getD j 0 = yj at *
          go_wp2_with fail
          go_region
          go_wp2
          go_roundg (8 - (j + 1))
          case measure => omega
          case rel => exact ⟨j + 1, rfl, by omega, by go_num, hrH.out _ (nv_add _ _) _⟩
        . have hj8 : j = 8 := by omega
          subst hj8
          have hfin := lh (fin_end hr (by rw [<- hF.out]; exact hvH.out))
          clear hr
          go_wp2
          all_goals go_end0
          exact ⟨rfl, hfin.out⟩
end Go.Proofs.YtbiioaggilaebaaGreatDoor.Sha
