/- What LawWireReads, LawWireWrites, LawWireSpoilt lean on, part j of 25: the texts Mix, RefC, TmX. -/
import Derived.Test.YtbefkoljcacpcaaGreatDoorTVh
import Derived.Test.YtbefkoljcacpcaaGreatDoorTVi
set_option linter.unusedVariables false
set_option linter.unusedSimpArgs false
namespace Go.Proofs.YtbefkoljcacpcaaGreatDoor.B
open Go Go.RowKit
section
variable {P : Program} {ops : Array Oper} {md : Region.Mode}
def pathB (md : Region.Mode) (ops : Array Oper) : Nat → Nat → Nat → Bool
  | 0, _, _ => false
  | f + 1, i, n => match ops[n]? with
    | some o => o.after.any fun e => Region.binds md e && (e.on == i || pathB md ops f i e.on)
    | none => false
structure Clo (md : Region.Mode) (ops : Array Oper) (listed : Array Bool) : Prop where
  size : listed.size = ops.size
  closed : ∀ j oj, ops[j]? = some oj → listed.getD j false = true → ∀ e ∈ oj.after, Region.binds md e = true → listed.getD e.on false = true
theorem Clo.set {i : Nat} {listed : Array Bool} (inv : Clo md ops listed) (hi : i ∈ Region.ready md ops listed) : Clo md ops (listed.setIfInBounds i true) := by
  obtain ⟨_, oi, hoi, hall⟩ := mem_ready.1 hi
  refine ⟨by simp [inv.size], fun j oj hj hl e he hb => ?_⟩
  by_cases hij : i = j
  · subst hij
    have : oj = oi := Option.some.inj (hj.symm.trans hoi)
    subst this
    exact getD_set_true (hall e he hb)
  · rw [getD_set_ne false hij] at hl
    exact getD_set_true (inv.closed j oj hj hl e he hb)
theorem path_listed {listed : Array Bool} (inv : Clo md ops listed) : ∀ (f i n : Nat), pathB md ops f i n = true → listed.getD n false = true → listed.getD i false = true
  | 0, _, _, h, _ => by simp [pathB] at h
  | f + 1, i, n, h, hn => by
    unfold pathB at h
    split at h
    · rename_i o ho
      obtain ⟨e, he, hb⟩ := Array.any_eq_true'.1 h
      simp only [Bool.and_eq_true, Bool.or_eq_true, beq_iff_eq] at hb
      have h1 := inv.closed n o ho hn e he hb.1
      rcases hb.2 with h2 | h2
      · rw [← h2]; exact h1
      · exact path_listed inv f i e.on h2 h1
    · cases h
theorem path_ready {listed : Array Bool} (inv : Clo md ops listed) {f i n : Nat} (h : pathB md ops f i n = true) (hn : n ∈ Region.ready md ops listed) : listed.getD i false = true := by
  cases f with
  | zero => simp [pathB] at h
  | succ f =>
    obtain ⟨_, o, ho, hall⟩ := mem_ready.1 hn
    unfold pathB at h
    rw [ho] at h
    obtain ⟨e, he, hb⟩ := Array.any_eq_true'.1 h
    simp only [Bool.and_eq_true, Bool.or_eq_true, beq_iff_eq] at hb
    have h1 := hall e he hb.1
    rcases hb.2 with h2 | h2
    · rw [← h2]; exact h1
    · exact path_listed inv f i e.on h2 h1
def askS (md : Region.Mode) (ops : Array Oper) (ms : List Nat) (j : Nat) : Bool := ms.any fun m => decide (m ≠ j) && !pathB md ops ops.size m j
def wpAnyM (P : Program) (md : Region.Mode) (ops : Array Oper) (S : World → Prop) (Q : Exit → Act → World → Prop) (ms : List Nat) : Nat → Array Bool → Act → World → Prop
  | 0, listed, a, w => Region.ready md ops listed = [] ∧ Q .normal a w
  | f + 1, listed, a, w => Region.ready md ops listed ≠ [] ∧ ∀ i ∈ Region.ready md ops listed, wpOp P ops (NoPanic Q) i (fun a' w' => (askS md ops ms i = true → S w → S w') ∧ wpAnyM P md ops S Q ms f (listed.setIfInBounds i true) a' w') a w
theorem wpAny_of_M {S : World → Prop} {Q : Exit → Act → World → Prop} {ms : List Nat} : ∀ (f : Nat) (listed : Array Bool) (a : Act) (w : World), wpAnyM P md ops S Q ms f listed a w → wpAny P md ops (NoPanic Q) f listed a w
  | 0, _, _, _, h => ⟨h.1, h.2⟩
  | f + 1, _, _, _, h => ⟨fun e => absurd e h.1, fun i hi => wpOp_mono (fun a' w' hh => wpAny_of_M f _ a' w' hh.2) (h.2 i hi)⟩
theorem wpAnyM_first {C S : World → Prop} {Q : Exit → Act → World → Prop} {ms : List Nat} {i : Nat} {oi : Oper} {v : Value} (hi : ops[i]? = some oi) (hsel : ∀ (j : Nat) (o : Oper) cs b, ops[j]? = some o → o.op ≠ .select cs b)
    (hC : (∀ w, C w) ∨ ((∀ w, C w → S w) ∧ (∀ w, S w → C w) ∧ ms.contains i = true)) :
    ∀ (f : Nat) (listed : Array Bool) (a : Act) (w : World), C w → Clo md ops listed →
      (∀ j oj, ops[j]? = some oj → j ≠ i → listed.getD j true = false → (∀ e ∈ oj.after, Region.binds md e = true → e.on ≠ i) → oi.apart ops oj = true) →
      i ∈ Region.ready md ops listed → YieldsR P ops C oi v a →
      wpAnyM P md ops S Q ms f (listed.setIfInBounds i true) (a.put oi.dst v) w → wpAnyM P md ops S Q ms (f + 1) listed a w := by
  intro f
  induction f with
  | zero =>
    intro listed a w hCw inv _ hr hy H
    refine ⟨fun h => (by rw [h] at hr; cases hr), fun j hj => ?_⟩
    by_cases hji : j = i
    · subst hji; exact hy.op hi hCw ⟨fun _ h => h, H⟩
    · have := ready_mono hj hji
      rw [H.1] at this
      cases this
  | succ f ih =>
    intro listed a w hCw inv hfree hr hy H
    have hun := (mem_ready.1 hr).1
    refine ⟨fun h => (by rw [h] at hr; cases hr), fun j hj => ?_⟩
    by_cases hji : j = i
    · subst hji; exact hy.op hi hCw ⟨fun _ h => h, H⟩
    · have h1 := H.2 j (ready_mono hj hji)
      obtain ⟨hjun, oj, hoj, hall⟩ := mem_ready.1 hj
      have hnot : ∀ e ∈ oj.after, Region.binds md e = true → e.on ≠ i := fun e he hb heq => by
        have h1 := hall e he hb
        rw [heq, getD_both hun] at h1
        cases h1
      have h2 := wpOp_putR hoj (hfree j oj hoj hji hjun hnot) (fun cs b => hsel i oi cs b hi) (fun cs b => hsel j oj cs b hoj) hy h1
      have hfree' : ∀ k ok, ops[k]? = some ok → k ≠ i → (listed.setIfInBounds j true).getD k true = false →
          (∀ e ∈ ok.after, Region.binds md e = true → e.on ≠ i) → oi.apart ops ok = true := fun k ok hk hki hun hno => by
        refine hfree k ok hk hki ?_ hno
        by_cases hjk : j = k
        · subst hjk; exact hjun
        · rw [getD_set_ne true hjk] at hun; exact hun
      have hask : (∀ w, C w) ∨ askS md ops ms j = true := by
        rcases hC with hC | ⟨_, _, hm⟩
        · exact .inl hC
        · right
          unfold askS
          rw [List.any_eq_true]
          refine ⟨i, by simpa using hm, ?_⟩
          rw [Bool.and_eq_true, decide_eq_true_eq, Bool.not_eq_true']
          refine ⟨fun e => hji e.symm, ?_⟩
          cases hp : pathB md ops ops.size i j with
          | false => rfl
          | true =>
            have := path_ready inv hp hj
            rw [getD_both hun] at this
            cases this
      refine wpOp_mono (fun a' w' h3 => ⟨h3.2.1, ih (listed.setIfInBounds j true) a' w' ?_ (inv.set hj) hfree' (ready_mono hr (Ne.symm hji)) h3.1 ?_⟩) h2
      · rcases hC with hC | ⟨h4, h5, _⟩
        · exact hC _
        · rcases hask with hC | hask
          · exact hC _
          · exact h5 _ (h3.2.1 hask (h4 _ hCw))
      · rw [Array.setIfInBounds_comm _ _ hji]
        exact h3.2.2
inductive Item where
  | mem (ks : List Nat)
  | pure (ks : List Nat)
  | keep (k : Nat)
  | last (k : Nat)
abbrev InC (S : World → Prop) : World → Prop := fun W => ∃ x : InS S, W = x.val
instance : Nonempty (InS fun _ => True) := ⟨⟨default, trivial⟩⟩
def wpMix (P : Program) (l : List Oper) (S : World → Prop) (Q : Exit → Act → World → Prop) : List Item → Act → World → Prop
  | [], a, w => Q .normal a w
  | .mem ks :: r, a, w => wpQuiet P l.toArray (InC S) (fun a' => wpMix P l S Q r a' w) (pick l ks) a
  | .pure ks :: r, a, w => wpQuiet P l.toArray (InC fun _ => True) (fun a' => wpMix P l S Q r a' w) (pick l ks) a
  | .keep k :: r, a, w => wpList P l.toArray (stepPost Q (fun a' w' => S w' ∧ wpMix P l S Q r a' w')) (pick l [k]) a w
  | .last k :: r, a, w => wpList P l.toArray (stepPost Q (fun a' w' => wpMix P l S Q r a' w')) (pick l [k]) a w
def hasMem : List Item → Bool
  | [] => false
  | .mem _ :: _ => true
  | _ :: r => hasMem r
def takeB (md : Region.Mode) (ops : Array Oper) (ok : Nat → Oper → Bool) (k : Array Bool → Bool) : List Nat → Array Bool → Bool
  | [], listed => k listed
  | i :: is, listed => (match ops[i]? with | some o => plainOp o.op && ok i o | none => false) && (Region.ready md ops listed).contains i && Region.free md ops listed i && takeB md ops ok k is (listed.setIfInBounds i true)
def mixB (md : Region.Mode) (ops : Array Oper) (ms : List Nat) : List Item → Array Bool → Bool
  | [], listed => (Region.ready md ops listed).isEmpty
  | .mem ks :: r, listed => takeB md ops (fun i _ => ms.contains i) (mixB md ops ms r) ks listed
  | .pure ks :: r, listed => takeB md ops (fun _ _ => true) (mixB md ops ms r) ks listed
  | .keep k :: r, listed => decide (Region.ready md ops listed = [k]) && mixB md ops ms r (listed.setIfInBounds k true)
  | .last k :: r, listed => decide (Region.ready md ops listed = [k]) && !askS md ops ms k && !hasMem r && mixB md ops ms r (listed.setIfInBounds k true)
def sizes : List Item → Nat
  | [] => 0
  | .mem ks :: r => ks.length + sizes r
  | .pure ks :: r => ks.length + sizes r
  | .keep _ :: r => sizes r + 1
  | .last _ :: r => sizes r + 1
def picksB (l : List Oper) : List Item → Bool
  | [] => true
  | .mem ks :: r => pickB l ks && picksB l r
  | .pure ks :: r => pickB l ks && picksB l r
  | .keep k :: r => pickB l [k] && picksB l r
  | .last k :: r => pickB l [k] && picksB l r
theorem take_sound {l : List Oper} {S C : World → Prop} {Q : Exit → Act → World → Prop} {ms : List Nat} (hsel : Region.noSelect l.toArray = true) (ok : Nat → Oper → Bool)
    (hC : ∀ i o, ok i o = true → (∀ w, C w) ∨ ((∀ w, C w → S w) ∧ (∀ w, S w → C w) ∧ ms.contains i = true)) {K : Act → Prop} {w : World} (hCw : C w) (kb : Array Bool → Bool) (m : Nat)
    (hK : ∀ listed a, Clo .any l.toArray listed → kb listed = true → K a → wpAnyM P .any l.toArray S Q ms m listed a w) :
    ∀ (ks : List Nat) (lr : List Oper) (listed : Array Bool) (a : Act), lr.map some = ks.map (fun k => l.toArray[k]?) → Clo .any l.toArray listed → takeB .any l.toArray ok kb ks listed = true → wpQuiet P l.toArray C K lr a →
    wpAnyM P .any l.toArray S Q ms (ks.length + m) listed a w
  | [], lr, listed, a, hl, inv, hB, h => by
    obtain rfl : lr = [] := by simpa using hl
    rw [List.length_nil, Nat.zero_add]
    exact hK listed a inv (by simpa [takeB] using hB) h
  | i :: ks, lr, listed, a, hl, inv, hB, h => by
    obtain ⟨o, lr, rfl⟩ : ∃ o l', lr = o :: l' := by
      cases lr with
      | nil => simp at hl
      | cons o l => exact ⟨o, l, rfl⟩
    simp only [List.map_cons, List.cons.injEq] at hl
    simp only [takeB, Bool.and_eq_true] at hB
    obtain ⟨⟨⟨hp, hr⟩, hf⟩, hB'⟩ := hB
    rw [← hl.1] at hp
    simp only [Bool.and_eq_true] at hp
    have hr' : i ∈ Region.ready .any l.toArray listed := by simpa using hr
    obtain ⟨v, hy, hk⟩ := yieldsR_of_quiet (ops := l.toArray) hp.1 h
    rw [List.length_cons, show ks.length + 1 + m = (ks.length + m) + 1 from by omega]
    exact wpAnyM_first hl.1.symm (Region.noSelect_spec hsel) (hC i o hp.2) _ listed a w hCw inv (Region.free_spec hl.1.symm hf) hr' hy
      (take_sound hsel ok hC hCw kb m hK ks lr _ _ hl.2 (inv.set hr') hB' hk)
theorem mix_sound {l : List Oper} {S : World → Prop} {Q : Exit → Act → World → Prop} {ms : List Nat} (hsel : Region.noSelect l.toArray = true) :
    ∀ (its : List Item) (listed : Array Bool) (a : Act) (w : World), (hasMem its = true → S w) → picksB l its = true → Clo .any l.toArray listed → mixB .any l.toArray ms its listed = true → wpMix P l S Q its a w →
    wpAnyM P .any l.toArray S Q ms (sizes its) listed a w
  | [], listed, a, w, _, _, inv, hB, h => ⟨by simpa [mixB] using hB, h⟩
  | .mem ks :: r, listed, a, w, hS, hp, inv, hB, h => by
    simp only [picksB, Bool.and_eq_true] at hp
    refine take_sound (C := InC S) hsel (fun i _ => ms.contains i) (fun i o hm => .inr ⟨fun w hw => ?_, fun w hw => ⟨⟨w, hw⟩, rfl⟩, hm⟩) ⟨⟨w, hS rfl⟩, rfl⟩ (mixB .any l.toArray ms r) (sizes r) (fun listed a inv hb hk => mix_sound hsel r listed a w (fun _ => hS rfl) hp.2 inv hb hk) ks (pick l ks) listed a (pick_map l ks hp.1) inv hB h
    obtain ⟨x, rfl⟩ := hw
    exact x.mem
  | .pure ks :: r, listed, a, w, hS, hp, inv, hB, h => by
    simp only [picksB, Bool.and_eq_true] at hp
    exact take_sound (C := InC fun _ => True) hsel (fun _ _ => true) (fun i o _ => .inl fun w => ⟨⟨w, trivial⟩, rfl⟩) ⟨⟨w, trivial⟩, rfl⟩ (mixB .any l.toArray ms r) (sizes r) (fun listed a inv hb hk => mix_sound hsel r listed a w hS hp.2 inv hb hk) ks (pick l ks) listed a (pick_map l ks hp.1) inv hB h
  | .keep k :: r, listed, a, w, hS, hp, inv, hB, h => by
    simp only [picksB, Bool.and_eq_true] at hp
    simp only [mixB, Bool.and_eq_true, decide_eq_true_eq] at hB
    have hm := pick_map l [k] hp.1
    refine ⟨by rw [hB.1]; simp, fun i hi => ?_⟩
    rw [hB.1] at hi
    obtain rfl : i = k := by simpa using hi
    have hr' : i ∈ Region.ready .any l.toArray listed := by rw [hB.1]; simp
    simp only [pick, List.map_cons, List.map_nil, List.cons.injEq, and_true] at hm
    exact wpOp_mono (fun a' w' hh => ⟨fun _ _ => hh.1, mix_sound hsel r _ a' w' (fun _ => hh.1) hp.2 (inv.set hr') hB.2 hh.2⟩) (wpOp_of_list hm.symm h)
  | .last k :: r, listed, a, w, hS, hp, inv, hB, h => by
    simp only [picksB, Bool.and_eq_true] at hp
    simp only [mixB, Bool.and_eq_true, decide_eq_true_eq, Bool.not_eq_true'] at hB
    have hm := pick_map l [k] hp.1
    refine ⟨by rw [hB.1.1.1]; simp, fun i hi => ?_⟩
    rw [hB.1.1.1] at hi
    obtain rfl : i = k := by simpa using hi
    have hr' : i ∈ Region.ready .any l.toArray listed := by rw [hB.1.1.1]; simp
    simp only [pick, List.map_cons, List.map_nil, List.cons.injEq, and_true] at hm
    exact wpOp_mono (fun a' w' hh => ⟨fun e => by (rw [hB.1.1.2] at e; cases e), mix_sound hsel r _ a' w' (fun e => by (rw [hB.1.2] at e; cases e)) hp.2 (inv.set hr') hB.2 hh⟩) (wpOp_of_list hm.symm h)
def allB (l : List Oper) (ms : List Nat) (its : List Item) : Bool :=
  Region.noSelect l.toArray && decide (sizes its = l.toArray.size) && picksB l its && mixB .any l.toArray ms its (Array.replicate l.toArray.size false)
theorem wp_region_mix {id : Nat} {Q : Exit → Act → World → Prop} {a : Act} {w : World} {l : List Oper} (S : World → Prop) (ms : List Nat) (its : List Item)
    (hm : P.follows .mixedOrders = true) (hB : allB l ms its = true) (hS : S w.drew) (h : wpMix P l S Q its a w.drew) : (Code.region id l.toArray true).wp P Q a w := by
  simp only [allB, Bool.and_eq_true, decide_eq_true_eq] at hB
  obtain ⟨⟨⟨hsel, hlen⟩, hp⟩, hb⟩ := hB
  have inv0 : Clo .any l.toArray (Array.replicate l.toArray.size false) := ⟨by simp, fun j oj _ hl => (by rw [getD_replicate_false] at hl; cases hl)⟩
  have H := mix_sound (P := P) (Q := Q) hsel its _ a w.drew (fun _ => hS) hp inv0 hb h
  rw [hlen] at H
  refine wp_region_noPanic ?_
  exact wp_region_any hm (wpAny_of_M _ _ _ _ H)
end
end Go.Proofs.YtbefkoljcacpcaaGreatDoor.B
set_option linter.unusedVariables false
set_option linter.unusedSimpArgs false
namespace Go.Proofs.YtbefkoljcacpcaaGreatDoor.Ref
open Go.RowKit Go.Proofs.YtbefkoljcacpcaaGreatDoor.B
def ab (x q p : Nat) : Bool := decide (p * 65536 ^ (2 * q) < x ^ q)
structure Abv (ml : List Nat) (q r top : Nat) (rest : Bool) : Prop where
  top : top = val (ml.drop (max r (2 * q)))
  rest : rest = decide (0 < val ((ml.take (2 * q)).drop r))
theorem drop_cons (l : List Nat) (r : Nat) (h : r < l.length) : l.drop r = l.getD r 0 :: l.drop (r + 1) := by
  rw [List.drop_eq_getElem_cons h, List.getD_eq_getElem?_getD, List.getElem?_eq_getElem h]; rfl
variable {ml : List Nat} {q r top : Nat} {rest : Bool}
theorem Abv.start (ml : List Nat) (q : Nat) (h : ml.length = 3 * q) : Abv ml q (3 * q) 0 false := by
  constructor
  · rw [List.drop_of_length_le (by omega)]; rfl
  · rw [List.drop_of_length_le (by rw [List.length_take]; omega)]; rfl
theorem Abv.high (h : Abv ml q (r + 1) top rest) (hl : ml.length = 3 * q) (hr : r < 3 * q) (hq : 2 * q ≤ r) : Abv ml q r (top * 65536 + ml.getD r 0) rest := by
  constructor
  · rw [h.top, Nat.max_eq_left (by omega), Nat.max_eq_left (by omega), drop_cons ml r (by omega), val]; omega
  · rw [h.rest, List.drop_of_length_le (by rw [List.length_take]; omega), List.drop_of_length_le (by rw [List.length_take]; omega)]
theorem Abv.low (h : Abv ml q (r + 1) top rest) (hl : ml.length = 3 * q) (hq : r < 2 * q) : Abv ml q r top (rest || decide (0 < ml.getD r 0)) := by
  constructor
  · rw [h.top, Nat.max_eq_right (by omega), Nat.max_eq_right (by omega)]
  · have e : (ml.take (2 * q)).getD r 0 = ml.getD r 0 := by
      simp only [List.getD_eq_getElem?_getD]
      rw [List.getElem?_take, if_pos hq]
    rw [drop_cons (ml.take (2 * q)) r (by rw [List.length_take]; omega), val, e, h.rest, ← Bool.decide_or]
    congr 1
    apply propext
    omega
theorem small_mem {l : List Nat} (h : ∀ k, l.getD k 0 < 65536) : ∀ x ∈ l, x < 65536 := by
  intro x hx
  obtain ⟨i, hi, rfl⟩ := List.getElem_of_mem hx
  have := h i
  rwa [List.getD_eq_getElem?_getD, List.getElem?_eq_getElem hi] at this
theorem Abv.bound (h : Abv ml q r top rest) (hl : ml.length = 3 * q) (hq : q ≤ 3) (hs : ∀ k, ml.getD k 0 < 65536) : top < 281474976710656 := by
  rw [h.top]
  have h1 := val_lt (ml.drop (max r (2 * q))) (fun x hx => small_mem hs x (List.mem_of_mem_drop hx))
  have h2 : 65536 ^ (ml.drop (max r (2 * q))).length ≤ 65536 ^ 3 := Nat.pow_le_pow_right (by omega) (by rw [List.length_drop]; omega)
  omega
theorem Abv.done (h : Abv ml q 0 top rest) (hl : ml.length = 3 * q) (hs : ∀ k, ml.getD k 0 < 65536) {x : Nat} (hv : val ml = x ^ q) (p : Nat) :
    (decide (p < top) || (decide (top = p) && rest)) = ab x q p := by
  have h1 := val_split ml (2 * q) (by omega)
  have h2 := val_lt (ml.take (2 * q)) (fun x hx => small_mem hs x (List.mem_of_mem_take hx))
  rw [List.length_take, Nat.min_eq_left (by omega)] at h2
  have ht := h.top
  have hr := h.rest
  rw [Nat.max_eq_right (by omega)] at ht
  rw [List.drop_zero] at hr
  rw [hv, ← ht] at h1
  rw [hr]
  unfold ab
  rw [h1, ← Bool.decide_and, ← Bool.decide_or]
  congr 1
  apply propext
  generalize val (ml.take (2 * q)) = lo at *
  generalize 65536 ^ (2 * q) = P at *
  constructor
  · rintro (h | ⟨h, h'⟩)
    · have : P * (p + 1) ≤ P * top := Nat.mul_le_mul_left _ (by omega)
      rw [Nat.mul_comm p P]
      rw [Nat.mul_add] at this
      omega
    · subst h; rw [Nat.mul_comm]; omega
  · intro h
    by_cases e : p < top
    · exact .inl e
    · refine .inr ?_
      by_cases e2 : top = p
      · subst e2; rw [Nat.mul_comm] at h; exact ⟨rfl, by omega⟩
      · exfalso
        have : P * (top + 1) ≤ P * p := Nat.mul_le_mul_left _ (by omega)
        rw [Nat.mul_comm p P] at h
        rw [Nat.mul_add] at this
        omega
def Mul (w0 w : World) (x : Nat) (v : Value) (n : Nat) : Prop := ∃ ml, RowU w v ml ∧ ml.length = 3 * n ∧ (∀ k, ml.getD k 0 < 65536) ∧ val ml = x ^ n ∧ Tch (fun _ => False) w0 w
theorem limbs_val (x : Nat) : val [x % 65536, x / 65536 % 65536, x / 4294967296] = x := by simp only [val]; omega
theorem limbs_small (x : Nat) (hx : x < 281474976710656) : ∀ k, ([x % 65536, x / 65536 % 65536, x / 4294967296] : List Nat).getD k 0 < 65536
  | 0 => by simp; omega
  | 1 => by simp; omega
  | 2 => by simp; omega
  | k + 3 => by simp
theorem mul_next {w0 w w' : World} {x n : Nat} {ml : List Nat} {e : Ending} (hx : x < 281474976710656) (hl : ml.length = 3 * n) (hv : val ml = x ^ n) (ht : Tch (fun _ => False) w0 w)
    (h : TimesPost w ml [x % 65536, x / 65536 % 65536, x / 4294967296] e w') : ∃ v, e = .returned v ∧ Mul w0 w' x v (n + 1) := by
  obtain ⟨v, l, he, hr, hll, hs, hvl, ht'⟩ := h
  exact ⟨v, he, l, hr, by rw [hll, hl]; simp; omega, hs, by rw [hvl, hv, limbs_val, Nat.pow_succ], ht.trans ht'⟩
set_option maxRecDepth 100000 in
set_option maxHeartbeats 4000000 in
theorem above_any (x q p : Nat) (hx : x < 281474976710656) (hq1 : 1 ≤ q) (hq : q ≤ 3) (hp : p < 1000) (w : World) :
    Calls Tryz.prog 86 #[.int .u64 (x : Int), .int .i64 (q : Int), .int .i64 (p : Int)] w fun e w' => e = .returned (.bool (ab x q p)) ∧ Tch (fun _ => False) w w' := by
  have hC := Lib.hid (limbs_any x (by omega) w)
  obtain ⟨L, hL⟩ : ∃ L, L = [x % 65536, x / 65536 % 65536, x / 4294967296] := ⟨_, rfl⟩
  rw [← hL] at hC
  have hw1 : (w.alloc (.cells (nc L) 102)).heap[w.heap.size]? = some (.cells (nc L) 102 (0, 0)) := heap_alloc_at _ _
  have hLl : L.length = 3 := by rw [hL]; rfl
  have hM1 : Mul w (w.alloc (.cells (nc L) 102)) x (.slice (some ⟨w.heap.size, 0, none⟩) 3 3) 1 :=
    ⟨L, by have := RowU.of (cap := 3) hw1; rwa [hLl] at this, by omega, by rw [hL]; exact limbs_small x hx, by rw [hL, limbs_val, Nat.pow_one], (Tch.refl _ _).alloc _⟩
  have hRL : RowU (w.alloc (.cells (nc L) 102)) (.slice (some ⟨w.heap.size, 0, none⟩) 3 3) L := by have := RowU.of (cap := 3) hw1; rwa [hLl] at this
  have hq1i : (1 : Int) ≤ (q : Int) := by omega
  have hqi : (q : Int) ≤ 3 := by omega
  have hpi : (p : Int) < 1000 := by omega
  replace hM1 := Lib.hid hM1
  replace hRL := Lib.hid hRL
  replace hL := Lib.hid hL
  clear hw1
  go_enter Tryz.func86, Tryz.ntmps86
  go_wp2_with (go_at_call 101; refine (hC.out).mono ?_; rintro e w1 ⟨rfl, rfl⟩)
  clear hC
  generalize hW : w.alloc (.cells (nc L) 102) = W1 at *
  replace hW := Lib.hid hW
  go_loopg [8, 9] (q - 1) (fun g mv i W => ∃ n : Nat, g = q - n ∧ 1 ≤ n ∧ n ≤ q ∧ i = .int .i64 n ∧ Mul w W x mv n ∧ Tch (fun _ => False) W1 W)
  case atStart => exact ⟨1, rfl, by omega, by omega, rfl, hM1.out, Tch.refl _ _⟩
  case round =>
    clear hM1
    obtain ⟨n, hg, hn1, hn, rfl, hM, hT1⟩ := hrel
    subst hg
    by_cases hnl : n < q
    · have hni : (n : Int) < (q : Int) := by omega
      obtain ⟨ml, hr, hl, hs, hv, ht⟩ := hM
      have hC := Lib.hid (times_any ml L (by omega) (by omega) hs (by rw [hL.out]; exact limbs_small x hx) _ _ wr hr (hRL.out.tch hT1))
      have hN := Lib.hid (fun e w' h => mul_next (w' := w') (e := e) hx hl hv ht (by rw [← hL.out]; exact h))
      replace hT1 := Lib.hid hT1
      clear hr hl hs hv ht
      go_wp2_with (go_at_call 102; refine (hC.out).mono ?_; intro e w1 hpost; have htt := hpost; obtain ⟨v, rfl, hM⟩ := hN.out _ _ hpost; obtain ⟨_, _, _, _, _, _, _, ht9⟩ := htt; replace ht9 := Lib.hid ht9; replace hM := Lib.hid hM; clear hpost)
      go_roundg (q - (n + 1))
      case measure => omega
      case rel => exact ⟨n + 1, rfl, by omega, by omega, by go_num, hM.out, hT1.out.trans ht9.out⟩
    · have hne : n = q := by omega
      subst hne
      clear hRL hT1
      obtain ⟨ml, ⟨gm, cm, rfl, hcs⟩, hl, hs, hv, ht⟩ := hM
      have hst := Lib.hid (show Abv ml n ml.length 0 false from by have := Abv.start ml n hl; rwa [← hl] at this)
      have hbd := Lib.hid (fun (r top : Nat) (rest : Bool) (h : Abv ml n r top rest) => h.bound hl hq hs)
      have hhi := Lib.hid (fun (r top : Nat) (rest : Bool) (h : Abv ml n (r + 1) top rest) => Abv.high h hl)
      have hlo := Lib.hid (fun (r top : Nat) (rest : Bool) (h : Abv ml n (r + 1) top rest) => Abv.low h hl)
      have hdn := Lib.hid (fun (top : Nat) (rest : Bool) (h : Abv ml n 0 top rest) => h.done hl hs hv p)
      have hli : (ml.length : Int) ≤ 9 := by omega
      have hli3 : (3 : Int) ≤ (ml.length : Int) := by omega
      have hlH := Lib.hid hl
      have hcsH := Lib.hid hcs
      have hsH := Lib.hid hs
      clear hcs hs hv hl
      replace ht := Lib.hid ht
      go_wp2_with fail
      go_loopg [10, 11, 12] ml.length (fun g tv rv i W => ∃ (r top : Nat) (rest : Bool), g = r ∧ r ≤ ml.length ∧ tv = .int .u64 top ∧ rv = .bool rest ∧ i = .int .i64 ((r : Int) - 1) ∧ Abv ml n r top rest ∧ W = wr)
      case atStart => exact ⟨ml.length, 0, false, rfl, Nat.le_refl _, rfl, rfl, by go_num, hst.out, rfl⟩
      case round =>
        obtain ⟨r', top, rest, hgk, hr, rfl, rfl, rfl, hA, rfl⟩ := hrel
        by_cases hr0 : r' = 0
        · subst hr0
          subst hgk
          have hd := Lib.hid (hdn.out top rest hA)
          have hb := hbd.out _ _ _ hA
          clear hA hst
          rw [show ((0 : Nat) : Int) - 1 = -1 from rfl]
          by_cases h1 : p < top
          · have h1i : (p : Int) < (top : Int) := by omega
            have hres := Lib.hid (show ab x n p = true from by rw [← hd.out]; simp [h1])
            go_wp2_with fail
            go_ret
            exact ⟨by rw [hres.out]; rfl, ht.out⟩
          · have h1i : ¬ (p : Int) < (top : Int) := by omega
            by_cases h2 : top = p
            · subst h2
              have hres := Lib.hid (show ab x n top = rest from by rw [← hd.out]; simp)
              cases rest
              · go_wp2_with fail
                go_ret
                exact ⟨by rw [hres.out]; rfl, ht.out⟩
              · go_wp2_with fail
                go_ret
                exact ⟨by rw [hres.out]; rfl, ht.out⟩
            · have h2i : ¬ (top : Int) = (p : Int) := by omega
              have hres := Lib.hid (show ab x n p = false from by rw [← hd.out]; simp [h1, h2])
              go_wp2_with fail
              go_ret
              exact ⟨by rw [hres.out]; rfl, ht.out⟩
        · obtain ⟨r, rfl⟩ : ∃ r, r' = r + 1 := ⟨r' - 1, by omega⟩
          subst hgk
          rw [show (((r + 1 : Nat) : Int) - 1) = (r : Int) from by omega]
          have hcell := hcsH.out r (by omega)
          have hsm := hsH.out r
          have hb := hbd.out _ _ _ hA
          have hbi : (top : Int) < 281474976710656 := by omega
          have hrl : (r : Int) < (ml.length : Int) := by omega
          by_cases h2 : 2 * n ≤ r
          · have h2i : 2 * (n : Int) ≤ (r : Int) := by omega
            have hnx := Lib.hid (hhi.out _ _ _ hA (by have := hlH.out; omega) h2)
            clear hA
            generalize ml.getD r 0 = mm at *
            have hmi : (mm : Int) < 65536 := by omega
            go_wp2_with fail
            go_roundg r
            case measure => omega
            case rel => exact ⟨r, _, rest, rfl, by omega, by go_num, rfl, by go_num, hnx.out, rfl⟩
          · have h2i : ¬ 2 * (n : Int) ≤ (r : Int) := by omega
            have hnx := Lib.hid (hlo.out _ _ _ hA (by omega))
            clear hA
            generalize ml.getD r 0 = mm at *
            by_cases h3 : 0 < mm
            · have h3i : (0 : Int) < (mm : Int) := by omega
              go_wp2_with fail
              go_roundg r
              case measure => omega
              case rel => exact ⟨r, top, true, rfl, by omega, rfl, rfl, by go_num, by have := hnx.out; rwa [decide_eq_true h3, Bool.or_true] at this, rfl⟩
            · have h3i : ¬ (0 : Int) < (mm : Int) := by omega
              go_wp2_with fail
              go_roundg r
              case measure => omega
              case rel => exact ⟨r, top, rest, rfl, by omega, rfl, rfl, by go_num, by have := hnx.out; rwa [decide_eq_false h3, Bool.or_false] at this, rfl⟩
end Go.Proofs.YtbefkoljcacpcaaGreatDoor.Ref
set_option linter.unusedVariables false
set_option linter.unusedSimpArgs false
namespace Go.Proofs.YtbefkoljcacpcaaGreatDoor.Tm
open Go Go.RowKit Go.Proofs.YtbefkoljcacpcaaGreatDoor.B Go.Proofs.YtbefkoljcacpcaaGreatDoor.Bld
theorem form_ne (f : F) (h : f.right = true) : f.bytes ≠ [] := by
  obtain ⟨c, r, e, _⟩ := form_head f h
  rw [e]; simp
set_option maxRecDepth 100000 in
set_option maxHeartbeats 2000000 in
theorem write_any (f : F) (c0 c1 c2 : Value) (w : World) (hf : FV w.heap.size w f [c0, c1, c2]) (hr : f.right = true) (hd : f.depth ≤ 8) (hlen : f.bytes.length ≤ 65536) (htab : Tab w) (hgB : 1 < w.heap.size) :
    Calls Tryz.prog 21 #[.agg #[c0, c1, c2]] w fun ev w' => ev = .returned (.tuple #[.string ⟨f.bytes.toArray⟩, .nilIface]) ∧ Below w.heap.size w w' := by
  obtain ⟨B, hB⟩ : ∃ B, B = w.heap.size := ⟨_, rfl⟩
  rw [← hB] at hf hgB ⊢
  obtain ⟨w1, hw1⟩ : ∃ w1, w1 = w.alloc (.cells #[c0, c1, c2] 52) := ⟨_, rfl⟩
  obtain ⟨w2, hw2⟩ : ∃ w2, w2 = w1.alloc (.cells #[.pointer none, .slice none 0 0, .nilIface, .bool false] 93) := ⟨_, rfl⟩
  have hs1 : w1.heap.size = B + 1 := by rw [hw1, hB]; simp
  have hs2 : w2.heap.size = B + 2 := by rw [hw2]; simp [hs1]
  have hb1 : Below B w w1 := by rw [hw1]; exact (Below.refl _ _).alloc (by omega) _
  have hb2 : Below B w w2 := by rw [hw2]; exact hb1.alloc (by omega) _
  have hg : w2.heap[B + 1]? = some (.cells #[.pointer none, .slice none 0 0, .nilIface, .bool false] 93 (0, 0)) := by
    rw [hw2, ← hs1]; exact heap_alloc_at _ _
  have hat : WAt B (B + 1) [] .nilIface (.bool false) w2 := ⟨by omega, _, _, .inl rfl, hg, by
    refine ⟨by simp [bc], .inl ⟨rfl, rfl⟩⟩⟩
  have hP := put_any B (B + 1) .nilIface (.bool false) _ f (Nat.lt_succ_self _) hr [] 0 c0 c1 c2 w2 (FV.below hb2 _ _ hf) hat (htab.keep hb2 hgB) (by omega) hgB (by omega) (by simpa using hlen)
  rw [List.nil_append] at hP
  replace hP := Lib.hid hP
  have hne := form_ne f hr
  have hb2H := Lib.hid hb2
  have hs2H := Lib.hid hs2
  have h1 : w2.heap[B]? = some (.cells #[c0, c1, c2] 52 (0, 0)) := by
    rw [hw2, heap_alloc_lt _ _ _ (by omega), hw1, hB]; exact heap_alloc_at _ _
  have hc0 : w2.cell? ⟨B, 0, none⟩ = some c0 := by rw [cell_of h1]; rfl
  have hc1 : w2.cell? ⟨B, 1, none⟩ = some c1 := by rw [cell_of h1]; rfl
  have hc2 : w2.cell? ⟨B, 2, none⟩ = some c2 := by rw [cell_of h1]; rfl
  generalize hbs : f.bytes = bs at *
  obtain ⟨fb, ft, fl⟩ := f
  unfold FV at hf
  obtain ⟨A, c, hcs, _⟩ := hf
  simp only [List.cons.injEq, and_true] at hcs
  obtain ⟨rfl, rfl, rfl⟩ := hcs
  have hlB : ¬ (65536 : Int) < (bs.length : Int) := by omega
  clear hat hg h1 hb1 hb2 hbs hr hd htab
  go_enter Tryz.func21, Tryz.ntmps21
  go_wp2_with fail
  rw [← hB, ← hw1]
  try rw [hs1]
  rw [← hw2]
  replace hB := Lib.hid hB
  replace hw1 := Lib.hid hw1
  replace hw2 := Lib.hid hw2
  clear hs1 hs2
  go_wp2_with fail
  refine (hP.out).mono ?_
  rintro ev w3 ⟨rfl, hw3, hb3, ho3⟩
  have hg3 := hw3
  obtain ⟨_, p, v, _, hg3, _⟩ := hg3
  have k2 : w3.cell? ⟨B + 1, 2, none⟩ = some .nilIface := by rw [cell_of hg3]; rfl
  have k3 : w3.cell? ⟨B + 1, 3, none⟩ = some (.bool false) := by rw [cell_of hg3]; rfl
  have hb3H := Lib.hid (hb2H.out.trans hb3)
  have hsz3 : B ≤ w3.heap.size := by have := hb3.size; have := hs2H.out; omega
  have CL := Lib.hid (fun (W : World) (hW : Below w3.heap.size w3 W) => len_any B (B + 1) bs .nilIface (.bool false) W (wat_tch hw3 hW))
  have CT := Lib.hid (fun (W : World) (hW : Below w3.heap.size w3 W) => text_any B (B + 1) bs .nilIface (.bool false) W (wat_tch hw3 hW) hne)
  have hw3H := Lib.hid hw3
  clear hw3 hb3 hg3 hP
  go_wp2_with fail
  refine (CL.out w3 (Below.refl _ _)).mono ?_
  rintro ev w4 ⟨rfl, rfl⟩
  go_wp2_with fail
  refine (CT.out _ (Below.refl _ _)).mono ?_
  rintro ev w5 ⟨rfl, hb5⟩
  replace hb5 := Lib.hid (hb3H.out.trans hb5)
  go_wp2_with fail
  go_ret2
  exact ⟨rfl, hb5.out⟩
end Go.Proofs.YtbefkoljcacpcaaGreatDoor.Tm
