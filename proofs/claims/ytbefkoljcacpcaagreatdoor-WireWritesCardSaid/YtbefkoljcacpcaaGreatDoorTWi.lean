/- What LawWireReads, LawWireWrites, LawWireSpoilt lean on, part i of 15: the texts Rdg, Bag, WiW, Mix. -/
import Derived.Test.YtbefkoljcacpcaaGreatDoorTWf
import Derived.Test.YtbefkoljcacpcaaGreatDoorTWg
import Derived.Test.YtbefkoljcacpcaaGreatDoorTWh
import Derived.StillTail
import Derived.Deep.RegionHeld3
set_option linter.unusedVariables false
set_option linter.unusedSimpArgs false
namespace Go.Proofs.YtbefkoljcacpcaaGreatDoor.B
open Go Go.RowKit
def plainOp : Op → Bool
  | .move _ | .assign _ | .pick .. | .load .. | .binOp .. | .unOp .. | .convert .. | .slice .. | .fieldAddr .. | .field .. | .indexAddr .. | .index .. | .extract .. | .build .. | .nilCheck _ | .lookup .. => true
  | _ => false
section
variable {P : Program}
theorem v_ne (s : Sem Value) (w w' : World) (f : FuncId) (args : Array Value) : ((do pure (Next.value (← s))) : Sem Next).run P w ≠ .ok (.enter f args) w' := by
  simp
  cases s.run P w <;> simp
theorem plain_no (ρ : Operand → Value) (o : Oper) (h : plainOp o.op = true) (w w' : World) (f : FuncId) (args : Array Value) : (execOp ρ o).run P w ≠ .ok (.enter f args) w' := by
  unfold execOp
  cases ho : o.op <;> rw [ho] at h <;> first | (cases h; done) | (simp only []; exact v_ne _ _ _ _ _) | (simp; done) | skip
  · simp only [Sem.run_bind]
    cases (asBool (ρ _)).run P w <;> simp
  · simp only []
    split
    · unfold runtimePanic; simp
    · unfold runtimePanic; simp
    · unfold runtimePanic; simp
    · split
      · unfold runtimePanic; simp
      · simp only [Sem.run_bind]
        cases (program).run P w with
        | halt h w1 => simp
        | ok p w1 =>
          simp only [Result.andThen_ok]
          cases (nilAhead _ _ _ _).run P w1 with
          | halt h w2 => simp
          | ok b w2 =>
            simp only [Result.andThen_ok]
            split
            · simp only [Sem.run_bind]
              cases (unsupported _).run P w2 <;> simp
            · simp
      · simp
    · simp
variable {ops : Array Oper} {md : Region.Mode} {C : World → Prop}
def YieldsR (P : Program) (ops : Array Oper) (C : World → Prop) (o : Oper) (v : Value) (a : Act) : Prop :=
  (Region.wanted o (yielded ops a.tmps) = true ∧ ∀ w, C w → (execOp a.eval o).run P w = .ok (.value v) w ∨ ((execOp a.eval o).run P w = .ok .skip w ∧ v = undef)) ∨
  (Region.wanted o (yielded ops a.tmps) = false ∧ v = undef)
theorem YieldsR.of_same {o : Oper} {v : Value} {a a' : Act} (hy : YieldsR P ops C o v a) (he : execOp a'.eval o = execOp a.eval o)
    (hw : Region.wanted o (yielded ops a'.tmps) = Region.wanted o (yielded ops a.tmps)) : YieldsR P ops C o v a' := by
  unfold YieldsR at *
  rw [he, hw]
  exact hy
theorem YieldsR.op {i : Nat} {o : Oper} {v : Value} {a : Act} {w : World} {Q : Exit → Act → World → Prop} (hi : ops[i]? = some o) (hy : YieldsR P ops C o v a) (hC : C w) {K : Act → World → Prop} (h : K (a.put o.dst v) w) : wpOp P ops Q i K a w := by
  unfold wpOp
  simp only [hi]
  rcases hy with ⟨hw, hv⟩ | ⟨hw, rfl⟩
  · simp only [hw, if_true]
    left
    unfold Oper.wp
    rcases hv w hC with h1 | ⟨h1, h2⟩
    · rw [h1]; exact h
    · rw [h1, Oper.upon_skip, ← h2]; exact h
  · simp only [hw, Bool.false_eq_true, if_false]; exact h
theorem yieldsR_of_quiet {o : Oper} {a : Act} {K : Act → Prop} (hp : plainOp o.op = true) (h : if Region.wanted o (yielded ops a.tmps) then o.quiet P a C K else K (a.put o.dst undef)) :
    ∃ v, YieldsR P ops C o v a ∧ K (a.put o.dst v) := by
  by_cases hw : Region.wanted o (yielded ops a.tmps) = true
  · rw [if_pos hw] at h
    obtain ⟨v, h1, h2⟩ := h
    refine ⟨v, .inl ⟨hw, fun w hC => ?_⟩, h2⟩
    have h3 := h1 w hC
    unfold Oper.quietAt at h3
    have hn := plain_no (P := P) a.eval o hp w
    generalize (execOp a.eval o).run P w = r at *
    cases r with
    | ok n w' =>
      cases n <;> simp only [Oper.quietUpon] at h3
      case value u => obtain ⟨rfl, rfl⟩ := h3; exact .inl rfl
      case skip => obtain ⟨rfl, rfl⟩ := h3; exact .inr ⟨rfl, rfl⟩
      case enter f args => exact absurd rfl (hn _ f args)
    | halt x w' => simp only [Oper.quietUpon] at h3
  · rw [if_neg hw] at h
    exact ⟨undef, .inr ⟨by simpa using hw, rfl⟩, h⟩
def stepPost (Q : Exit → Act → World → Prop) (K : Act → World → Prop) : Exit → Act → World → Prop
  | .normal, a, w => K a w
  | .panic _, _, _ => False
  | e, a, w => Q e a w
theorem stepPost_last {Q : Exit → Act → World → Prop} {a : Act} {w : World} (h : Q .normal a w) : stepPost Q (fun a' w' => Q .normal a' w') .normal a w := h
theorem wp_post {o : Oper} {a : Act} {w : World} {K K' : Act → World → Prop} {Q Q' : Exit → Act → World → Prop} (hp : ∀ c a w, Q (.panic c) a w → Q' (.panic c) a w) (ho : LetsOut Q → LetsOut Q') (hk : ∀ a w, K a w → K' a w) (h : o.wp P a w K Q) : o.wp P a w K' Q' := by
  unfold Oper.wp at *
  generalize (execOp a.eval o).run P w = r at *
  cases r with
  | ok n w' =>
    cases n <;> simp only [Oper.upon] at h ⊢
    case value u => exact hk _ _ h
    case skip => exact hk _ _ h
    case defer d => exact hk _ _ h
    case enter f args =>
      refine Calls.mono h fun e w'' he => ?_
      cases e with
      | returned u => exact hk _ _ he
      | panicked c => exact hp _ _ _ he
      | outgrown => exact ho he
    case row row args => exact Rows.mono h fun u w'' he => hk _ _ he
  | halt x w' =>
    cases x <;> simp only [Oper.upon] at h ⊢
    case panic u => exact hp _ _ _ h
theorem wpOp_of_list {i : Nat} {o : Oper} (hi : ops[i]? = some o) {K : Act → World → Prop} {Q : Exit → Act → World → Prop} {a : Act} {w : World} (h : wpList P ops (stepPost Q K) [o] a w) : wpOp P ops (NoPanic Q) i K a w := by
  unfold wpOp
  simp only [hi]
  unfold wpList at h
  have ho : LetsOut (stepPost Q K) → LetsOut (NoPanic Q) := fun ⟨a, w, h⟩ => ⟨a, w, h⟩
  split
  · rename_i hw
    rw [if_pos hw] at h
    rcases h with h | ⟨h1, h2⟩
    · exact .inl (wp_post (fun _ _ _ h => h) ho (fun _ _ h => h) h)
    · exact .inr ⟨h1, ho h2⟩
  · rename_i hw
    rw [if_neg hw] at h
    exact h
def wpAnyC (P : Program) (md : Region.Mode) (ops : Array Oper) (S : World → Prop) (Q : Exit → Act → World → Prop) (n : Nat) : Nat → Array Bool → Act → World → Prop
  | 0, listed, a, w => Region.ready md ops listed = [] ∧ Q .normal a w
  | f + 1, listed, a, w => Region.ready md ops listed ≠ [] ∧ ∀ i ∈ Region.ready md ops listed, wpOp P ops (NoPanic Q) i (fun a' w' => (i ≠ n → S w') ∧ wpAnyC P md ops S Q n f (listed.setIfInBounds i true) a' w') a w
theorem wpAny_of_C {S : World → Prop} {Q : Exit → Act → World → Prop} {n : Nat} : ∀ (f : Nat) (listed : Array Bool) (a : Act) (w : World), wpAnyC P md ops S Q n f listed a w → wpAny P md ops (NoPanic Q) f listed a w
  | 0, _, _, _, h => ⟨h.1, h.2⟩
  | f + 1, _, _, _, h => ⟨fun e => absurd e h.1, fun i hi => wpOp_mono (fun a' w' hh => wpAny_of_C f _ a' w' hh.2) (h.2 i hi)⟩
theorem wpOp_putR {j : Nat} {oi oj : Oper} {v : Value} {S : World → Prop} {Q : Exit → Act → World → Prop} (hj : ops[j]? = some oj) (hap : oi.apart ops oj = true)
    (hsi : ∀ cs b, oi.op ≠ .select cs b) (hsj : ∀ cs b, oj.op ≠ .select cs b) {K : Act → World → Prop} {a : Act} {w : World}
    (hy : YieldsR P ops S oi v a) (h : wpOp P ops (NoPanic Q) j K (a.put oi.dst v) w) :
    wpOp P ops (NoPanic Q) j (fun a' w' => YieldsR P ops S oi v a' ∧ K (a'.put oi.dst v) w') a w := by
  obtain ⟨h1, h2, h3⟩ := Oper.apart_spec hap
  have keep : ∀ (a : Act), YieldsR P ops S oi v a → ∀ u, YieldsR P ops S oi v (a.put oj.dst u) := fun a hy u =>
    hy.of_same (execOp_put oi hsi a oj.dst u h3) (wanted_put oi a oj.dst u h3)
  have keepD : ∀ d, YieldsR P ops S oi v { a with defers := d :: a.defers } := fun d => hy.of_same rfl rfl
  unfold wpOp at *
  simp only [hj] at *
  rw [wanted_put oj a oi.dst v h1] at h
  split
  · rename_i hw
    simp only [hw, if_true] at h
    rcases h with h | ⟨hasks, hlets⟩
    case inr => exact .inr ⟨by unfold Oper.asks at *; rw [execOp_put oj hsj a oi.dst v h1] at hasks; exact hasks, hlets⟩
    refine .inl ?_
    unfold Oper.wp at *
    rw [execOp_put oj hsj a oi.dst v h1] at h
    generalize (execOp a.eval oj).run P w = r at *
    cases r with
    | ok n w' =>
      cases n <;> simp only [Oper.upon] at h ⊢
      case value u => exact ⟨keep a hy u, by rw [← Act.put_comm a v u h2]; exact h⟩
      case skip => exact ⟨keep a hy _, by rw [← Act.put_comm a v undef h2]; exact h⟩
      case defer d =>
        refine ⟨keep _ (keepD d) _, ?_⟩
        rw [← Act.put_comm _ v undef h2, ← Act.put_defers]
        exact h
      case enter f args =>
        refine Calls.mono h fun e w'' he => ?_
        cases e with
        | returned u => exact ⟨keep a hy u, by rw [← Act.put_comm a v u h2]; exact he⟩
        | panicked c => exact he
        | outgrown => exact he
      case row row args => exact Rows.mono h fun u w'' he => ⟨keep a hy u, by rw [← Act.put_comm a v u h2]; exact he⟩
    | halt x w' =>
      cases x <;> simp only [Oper.upon] at h ⊢
      case panic u => exact h
  · rename_i hw
    simp only [hw] at h
    exact ⟨keep a hy _, by rw [← Act.put_comm a v undef h2]; exact h⟩
theorem wpAnyC_first {S : World → Prop} {Q : Exit → Act → World → Prop} {n i : Nat} {oi : Oper} {v : Value} (hi : ops[i]? = some oi) (hsel : ∀ (j : Nat) (o : Oper) cs b, ops[j]? = some o → o.op ≠ .select cs b)
    (hs : Region.sinkB md ops n = true) (hc : Region.chainB md ops n = true) (hn : n < ops.size) (hin : i < n) :
    ∀ (f : Nat) (listed : Array Bool) (a : Act) (w : World), S w → HeadInv md ops n listed →
      (∀ j oj, ops[j]? = some oj → j ≠ i → listed.getD j true = false → (∀ e ∈ oj.after, Region.binds md e = true → e.on ≠ i) → oi.apart ops oj = true) →
      i ∈ Region.ready md ops listed → YieldsR P ops S oi v a →
      wpAnyC P md ops S Q n f (listed.setIfInBounds i true) (a.put oi.dst v) w → wpAnyC P md ops S Q n (f + 1) listed a w := by
  intro f
  induction f with
  | zero =>
    intro listed a w hS inv _ hr hy H
    refine ⟨fun h => (by rw [h] at hr; cases hr), fun j hj => ?_⟩
    by_cases hji : j = i
    · subst hji; exact hy.op hi hS ⟨fun _ => hS, H⟩
    · have := ready_mono hj hji
      rw [H.1] at this
      cases this
  | succ f ih =>
    intro listed a w hS inv hfree hr hy H
    have hun := (mem_ready.1 hr).1
    refine ⟨fun h => (by rw [h] at hr; cases hr), fun j hj => ?_⟩
    have hjn : j < n := by
      rcases Nat.lt_or_ge j n with h | h
      · exact h
      · exact absurd hj (tail_waits hs hc hn inv _ i rfl hin hun j h)
    by_cases hji : j = i
    · subst hji; exact hy.op hi hS ⟨fun _ => hS, H⟩
    · have h1 := H.2 j (ready_mono hj hji)
      obtain ⟨hjun, oj, hoj, hall⟩ := mem_ready.1 hj
      have hnot : ∀ e ∈ oj.after, Region.binds md e = true → e.on ≠ i := fun e he hb heq => by
        have h1 := hall e he hb
        rw [heq, getD_both hun] at h1
        cases h1
      have h2 := wpOp_putR hoj (hfree j oj hoj hji hjun hnot) (fun cs b => hsel i oi cs b hi) (fun cs b => hsel j oj cs b hoj) hy h1
      have hfree' : ∀ k ok, ops[k]? = some ok → k ≠ i → (listed.setIfInBounds j true).getD k true = false →
          (∀ e ∈ ok.after, Region.binds md e = true → e.on ≠ i) → oi.apart ops ok = true := fun k ok hk hki hun hno => by
        refine hfree k ok hk hki ?_ hno
        by_cases hjk : j = k
        · subst hjk; exact hjun
        · rw [getD_set_ne true hjk] at hun; exact hun
      refine wpOp_mono (fun a' w' h3 => ⟨fun _ => h3.2.1 (by omega), ih (listed.setIfInBounds j true) a' w' (h3.2.1 (by omega)) (inv.set hj hjn) hfree' (ready_mono hr (Ne.symm hji)) h3.1 ?_⟩) h2
      rw [Array.setIfInBounds_comm _ _ hji]
      exact h3.2.2
def readsB (md : Region.Mode) (ops : Array Oper) (n : Nat) (ks : List Nat) : List Nat → Array Bool → Bool
  | [], listed => seqsB md ops n ks listed
  | i :: rs, listed => decide (i < n) && (match ops[i]? with | some o => plainOp o.op | none => false) && (Region.ready md ops listed).contains i && Region.free md ops listed i && readsB md ops n ks rs (listed.setIfInBounds i true)
where
  seqsB (md : Region.Mode) (ops : Array Oper) (n : Nat) : List Nat → Array Bool → Bool
    | [], listed => false
    | [k], listed => decide (k = n) && decide (Region.ready md ops listed = [k]) && (Region.ready md ops (listed.setIfInBounds k true)).isEmpty
    | k :: k2 :: ks, listed => decide (Region.ready md ops listed = [k]) && seqsB md ops n (k2 :: ks) (listed.setIfInBounds k true)
def wpChain (P : Program) (ops : Array Oper) (S : World → Prop) (Q : Exit → Act → World → Prop) : List Oper → Act → World → Prop
  | [], _, _ => False
  | [o], a, w => wpList P ops (stepPost Q (fun a' w' => Q .normal a' w')) [o] a w
  | o :: o2 :: l, a, w => wpList P ops (stepPost Q (fun a' w' => S w' ∧ wpChain P ops S Q (o2 :: l) a' w')) [o] a w
theorem wpAnyC_chain {S : World → Prop} {Q : Exit → Act → World → Prop} {n : Nat} : ∀ (ks : List Nat) (l : List Oper) (listed : Array Bool) (a : Act) (w : World), l.map some = ks.map (fun k => ops[k]?) → readsB.seqsB md ops n ks listed = true →
    wpChain P ops S Q l a w → wpAnyC P md ops S Q n ks.length listed a w
  | [], _, _, _, _, _, hB, _ => by simp [readsB.seqsB] at hB
  | [k], l, listed, a, w, hl, hB, h => by
    obtain ⟨o, rfl⟩ : ∃ o, l = [o] := by
      have h1 := congrArg List.length hl
      rw [List.length_map, List.length_map, List.length_singleton] at h1
      exact List.length_eq_one_iff.1 h1
    · simp only [List.map_cons, List.map_nil, List.cons.injEq, and_true] at hl
      simp only [readsB.seqsB, Bool.and_eq_true, decide_eq_true_eq, List.isEmpty_iff] at hB
      refine ⟨by rw [hB.1.2]; simp, fun i hi => ?_⟩
      rw [hB.1.2] at hi
      obtain rfl : i = k := by simpa using hi
      exact wpOp_mono (fun a' w' hh => ⟨fun hne => absurd hB.1.1 hne, hB.2, hh⟩) (wpOp_of_list hl.symm h)
  | k :: k2 :: ks, l, listed, a, w, hl, hB, h => by
    obtain ⟨o, o2, l, rfl⟩ : ∃ o o2 l', l = o :: o2 :: l' := by
      cases l with
      | nil => simp at hl
      | cons o l =>
        cases l with
        | nil => simp at hl
        | cons o2 l => exact ⟨o, o2, l, rfl⟩
    · simp only [List.map_cons, List.cons.injEq] at hl
      simp only [readsB.seqsB, Bool.and_eq_true, decide_eq_true_eq] at hB
      refine ⟨by rw [hB.1]; simp, fun i hi => ?_⟩
      rw [hB.1] at hi
      obtain rfl : i = k := by simpa using hi
      exact wpOp_mono (fun a' w' hh => ⟨fun _ => hh.1, wpAnyC_chain (k2 :: ks) (o2 :: l) _ a' w' (by simp only [List.map_cons, List.cons.injEq]; exact hl.2) hB.2 hh.2⟩) (wpOp_of_list hl.1.symm h)
theorem wpAnyC_reads {S : World → Prop} {Q : Exit → Act → World → Prop} {n : Nat} (hsel : Region.noSelect ops = true) (hs : Region.sinkB md ops n = true) (hc : Region.chainB md ops n = true) (hn : n < ops.size) (ks : List Nat) (lk : List Oper) (hk : lk.map some = ks.map (fun k => ops[k]?)) :
    ∀ (rs : List Nat) (lr : List Oper) (listed : Array Bool) (a : Act) (w : World), S w → lr.map some = rs.map (fun k => ops[k]?) → HeadInv md ops n listed → readsB md ops n ks rs listed = true →
    wpQuiet P ops S (fun a' => wpChain P ops S Q lk a' w) lr a → wpAnyC P md ops S Q n (rs.length + ks.length) listed a w
  | [], lr, listed, a, w, hS, hl, inv, hB, h => by
    obtain rfl : lr = [] := by simpa using hl
    rw [List.length_nil, Nat.zero_add]
    exact wpAnyC_chain ks lk listed a w hk (by simpa [readsB] using hB) h
  | i :: rs, lr, listed, a, w, hS, hl, inv, hB, h => by
    obtain ⟨o, lr, rfl⟩ : ∃ o l', lr = o :: l' := by
      cases lr with
      | nil => simp at hl
      | cons o l => exact ⟨o, l, rfl⟩
    · simp only [List.map_cons, List.cons.injEq] at hl
      simp only [readsB, Bool.and_eq_true, decide_eq_true_eq] at hB
      obtain ⟨⟨⟨⟨hin, hp⟩, hr⟩, hf⟩, hB'⟩ := hB
      rw [← hl.1] at hp
      have hr' : i ∈ Region.ready md ops listed := by simpa using hr
      obtain ⟨v, hy, hK⟩ := yieldsR_of_quiet (ops := ops) hp h
      rw [List.length_cons, show rs.length + 1 + ks.length = (rs.length + ks.length) + 1 from by omega]
      exact wpAnyC_first hl.1.symm (Region.noSelect_spec hsel) hs hc hn hin _ listed a w hS inv (Region.free_spec hl.1.symm hf) hr' hy
        (wpAnyC_reads hsel hs hc hn ks lk hk rs lr _ _ w hS hl.2 (inv.set hr' hin) hB' hK)
def ordB (l : List Oper) (rs ks : List Nat) : Bool :=
  let ops := l.toArray
  let n := ops.size - 1
  Region.noSelect ops && decide (n < ops.size) && Region.sinkB .any ops n && Region.chainB .any ops n && decide (rs.length + ks.length = ops.size) && readsB .any ops n ks rs (Array.replicate ops.size false)
structure InS (S : World → Prop) where
  val : World
  mem : S val
def pick (l : List Oper) : List Nat → List Oper
  | [] => []
  | k :: ks => l.getD k { dst := none, op := .move (.tmp 0), type := 0, pos := "", after := #[], guard := none } :: pick l ks
def pickB (l : List Oper) (ks : List Nat) : Bool := ks.all fun k => decide (k < l.length)
theorem pick_map (l : List Oper) : ∀ ks : List Nat, pickB l ks = true → (pick l ks).map some = ks.map (fun k => l.toArray[k]?)
  | [], _ => rfl
  | k :: ks, h => by
    simp only [pickB, List.all_cons, Bool.and_eq_true, decide_eq_true_eq] at h
    rw [pick, List.map_cons, List.map_cons, pick_map l ks h.2, List.getD_eq_getElem?_getD, List.getElem?_eq_getElem h.1]
    simp [h.1]
theorem wp_region_reads {id : Nat} {Q : Exit → Act → World → Prop} {a : Act} {w : World} {l : List Oper} (S : World → Prop) (rs ks : List Nat)
    (hm : P.follows .mixedOrders = true) (hB : (ordB l rs ks && (pickB l rs && pickB l ks)) = true) (hS : S w.drew)
    (h : wpQuiet P l.toArray (fun W => ∃ x : InS S, W = x.val) (fun a' => wpChain P l.toArray (fun W => ∃ x : InS S, W = x.val) Q (pick l ks) a' w.drew) (pick l rs) a) : (Code.region id l.toArray true).wp P Q a w := by
  rw [Bool.and_eq_true, Bool.and_eq_true] at hB
  obtain ⟨hB, hp1, hp2⟩ := hB
  have hlr := pick_map l rs hp1
  have hlk := pick_map l ks hp2
  generalize pick l rs = lr at *
  generalize pick l ks = lk at *
  simp only [ordB, Bool.and_eq_true, decide_eq_true_eq] at hB
  obtain ⟨⟨⟨⟨⟨hsel, hn⟩, hs⟩, hc⟩, hlen⟩, hr⟩ := hB
  have inv0 : HeadInv .any l.toArray (l.toArray.size - 1) (Array.replicate l.toArray.size false) :=
    ⟨by simp, fun j oj _ hl => (by rw [getD_replicate_false] at hl; cases hl), fun t _ ht => getD_in (by simpa using ht) (getD_replicate_false _ _)⟩
  have H := wpAnyC_reads (md := .any) hsel hs hc hn ks lk hlk rs lr _ a w.drew ⟨⟨w.drew, hS⟩, rfl⟩ hlr inv0 hr h
  rw [hlen] at H
  refine wp_region_noPanic ?_
  exact wp_region_any hm (wpAny_of_C _ _ _ _ H)
end
end Go.Proofs.YtbefkoljcacpcaaGreatDoor.B
set_option linter.unusedVariables false
set_option linter.unusedSimpArgs false
namespace Go.Proofs.YtbefkoljcacpcaaGreatDoor.Tm
open Go Go.RowKit Go.Proofs.YtbefkoljcacpcaaGreatDoor.B Go.Proofs.YtbefkoljcacpcaaGreatDoor.Bld
theorem FC.append {ok : Nat → Prop} {w : World} {l' : List F} {cs' : List Value} (h' : FC ok w l' cs') : ∀ {l : List F} {cs : List Value}, FC ok w l cs → FC ok w (l ++ l') (cs ++ cs')
  | [], cs, h => by
    cases h
    exact h'
  | f :: l, cs, ⟨c0, c1, c2, r, h1, h2, h3⟩ => ⟨c0, c1, c2, r ++ cs', by rw [h1]; rfl, h2, FC.append h' h3⟩
theorem FC.len {ok : Nat → Prop} {w : World} : ∀ {l : List F} {cs : List Value}, FC ok w l cs → cs.length = l.length * 3
  | [], cs, h => by cases h; rfl
  | f :: l, cs, ⟨c0, c1, c2, r, h1, h2, h3⟩ => by
    rw [h1]
    simp only [List.length_cons, FC.len h3]
    omega
theorem FC.one {ok : Nat → Prop} {w : World} : ∀ {l : List F} {cs : List Value}, FC ok w l cs → ∀ u ∈ cs, u.oneCell' = true
  | [], cs, h, u, hu => by cases h; cases hu
  | f :: l, cs, ⟨c0, c1, c2, r, h1, h2, h3⟩, u, hu => by
    subst h1
    obtain ⟨e0, e1, e2⟩ := h2.cells
    simp only [List.mem_cons] at hu
    rcases hu with rfl | rfl | rfl | hu
    · exact e0
    · exact e1
    · exact e2
    · exact FC.one h3 u hu
theorem Bag.pushG {base : Nat} {w w' : World} {v : Value} {L G : List F} {cs cs' : List Value} {g cap : Nat} (h2 : FC (fun b => base ≤ b ∧ b < w.heap.size ∧ some b ≠ v.ownBlock) w L cs)
    (hf : FC (fun b => base ≤ b ∧ b < w.heap.size ∧ some b ≠ v.ownBlock) w G cs')
    (ho : w'.ownsRow base 52 3 (.slice (some ⟨g, 0, none⟩) (L.length + G.length) cap) (L.length + G.length) (cs ++ cs')) (hg : w.grownBy w' v.ownBlock) (hv : v.ownBlock = some g ∨ w.heap.size ≤ g) :
    Bag base w' (.slice (some ⟨g, 0, none⟩) (L.length + G.length) cap) (L ++ G) := by
  have hm : ∀ b, (base ≤ b ∧ b < w.heap.size ∧ some b ≠ v.ownBlock) → (base ≤ b ∧ b < w'.heap.size ∧ some b ≠ (Value.slice (some ⟨g, 0, none⟩) (L.length + G.length) cap).ownBlock) ∧ w'.heap[b]? = w.heap[b]? := by
    intro b ⟨h1, h2, h3⟩
    refine ⟨⟨h1, Nat.lt_of_lt_of_le h2 hg.size, ?_⟩, hg.block b h2 h3⟩
    show some b ≠ some g
    intro e
    injection e with e
    subst e
    rcases hv with hv | hv
    · exact h3 hv.symm
    · omega
  have e : (L ++ G).length = L.length + G.length := by simp
  exact ⟨cs ++ cs', by rw [e]; exact ho, FC.append (FC.move hm hf) (FC.move hm h2)⟩
def Grew (v : Value) (w w' : World) : Prop := w.heap.size ≤ w'.heap.size ∧ w'.os = w.os ∧ w'.tape = w.tape ∧ w'.output = w.output ∧ ∀ b, b < w.heap.size → some b ≠ v.ownBlock → w'.heap[b]? = w.heap[b]?
theorem Grew.cell {v : Value} {w w' : World} (h : Grew v w w') {p : Addr} {u : Value} (hc : w.cell? p = some u) (hne : some p.block ≠ v.ownBlock) : w'.cell? p = some u :=
  (World.cell?_of_block (h.2.2.2.2 _ (World.block_lt_of_cell? w p hc) hne)).trans hc
theorem Grew.heap {v : Value} {w w' : World} (h : Grew v w w') {b : Nat} {o : Obj} (hc : w.heap[b]? = some o) (hne : some b ≠ v.ownBlock) : w'.heap[b]? = some o := (h.2.2.2.2 _ (heap_lt hc) hne).trans hc
theorem Grew.tch {S : Nat → Prop} {v : Value} {w0 w w' : World} (h : Grew v w w') (ht : Tch S w0 w) (hv : ∀ k, v.ownBlock = some k → w0.heap.size ≤ k) : Tch S w0 w' :=
  ⟨h.2.1.trans ht.os, h.2.2.1.trans ht.tape, h.2.2.2.1.trans ht.output, Nat.le_trans ht.size h.1, fun k hk hs => (h.2.2.2.2 k (Nat.lt_of_lt_of_le hk ht.size) (fun e => by have := hv k e.symm; omega)).trans (ht.block k hk hs)⟩
theorem Grew.below {B : Nat} {v : Value} {w0 w w' : World} (h : Grew v w w') (hb : Below B w0 w) (hB : B ≤ w.heap.size) (hv : ∀ k, v.ownBlock = some k → B ≤ k) : Below B w0 w' :=
  ⟨h.2.1.trans hb.os, h.2.2.1.trans hb.tape, h.2.2.2.1.trans hb.output, Nat.le_trans hb.size h.1, fun k hk => (h.2.2.2.2 k (by omega) (fun e => by have := hv k e.symm; omega)).trans (hb.block k hk)⟩
theorem bag_app {ops : Array Oper} {rest : List Oper} {o : Oper} {a : Act} {Q : Exit → Act → World → Prop} {base : Nat} {w : World} {v : Value} {L G : List F} {cs' : List Value} {arr : Array Value} (hgd : o.guard = none) (s x : Operand) (t : TypeId)
    (ho : o.op = .call { callee := .builtin .append, args := #[s, x], argTypes := #[t, t] }) (ht : Tryz.prog.underlying t = some (.slice 52))
    (hs : a.eval s = v) (n m c : Nat) (hx : a.eval x = .slice (some ⟨w.heap.size, 0, none⟩) m c) (harr : arr.toList = cs') (hbag : Bag base w v L)
    (hG : FC (fun b => base ≤ b ∧ b < w.heap.size ∧ some b ≠ v.ownBlock) w G cs') (hn : L.length = n) (hm : G.length = m) (hm0 : 0 < m) (hb : n + m ≤ 1000000000) (hbase : base ≤ w.heap.size)
    (h : ∀ g cap w', Bag base w' (.slice (some ⟨g, 0, none⟩) (n + m) cap) (L ++ G) → Grew v w w' → wpList Tryz.prog ops Q rest (a.put o.dst (.slice (some ⟨g, 0, none⟩) (n + m) cap)) w') :
    wpList Tryz.prog ops Q (o :: rest) a (w.alloc (.cells arr 52)) := by
  subst hn hm harr
  obtain ⟨iF, hiF, hzF, hsF, hbF⟩ := infoF
  have hbag' := hbag
  obtain ⟨cs, hown, hFC⟩ := hbag
  refine wpList_append_lies _ hgd s x t ho base 52 iF _ 3 48 ht hiF hzF hsF hbF rfl (by omega) v L.length cs hs (hown.alloc _) ⟨w.heap.size, 0, none⟩ G.length c arr.toList hx hG.len (World.news_of_block (heap_alloc_at w _)) hG.one hm0 (by unfold maxLen; omega) (by omega) (by simp; omega) (w.heap.size + 1) (by simp) ?_
  intro g cap w' hown' hgrow hat hlt
  have hsz := hgrow.size
  rw [size_alloc] at hsz
  have hgr : w.grownBy w' v.ownBlock := ⟨hgrow.os, hgrow.tape, hgrow.output, by omega, fun k h1 h2 => (hgrow.block k (by rw [size_alloc]; omega) h2).trans (heap_alloc_lt w _ _ h1)⟩
  refine h g cap w' (Bag.pushG hFC hG hown' hgr ?_) ⟨hgr.size, hgr.os, hgr.tape, hgr.output, hgr.block⟩
  rcases hat with h | h
  · exact .inl h
  · right; omega
theorem FC.texts {ok : Nat → Prop} {w : World} (s : ByteArray) : FC ok w [txt s.data.toList] [.bool false, .string s, .slice none 0 0] := ⟨_, _, _, [], rfl, FK.text _ _ _, rfl⟩
end Go.Proofs.YtbefkoljcacpcaaGreatDoor.Tm
set_option linter.unusedVariables false
set_option linter.unusedSimpArgs false
namespace Go.Proofs.YtbefkoljcacpcaaGreatDoor.Wi
open Go Go.RowKit Go.Proofs.YtbefkoljcacpcaaGreatDoorW.PrintWords Go.Proofs.YtbefkoljcacpcaaGreatDoor.B Go.Proofs.YtbefkoljcacpcaaGreatDoor.Tm
def LetAt (W : World) (g : Nat) (v0 v1 v2 v3 v4 v5 : Int) (A : Option Addr) (n c : Nat) (p : ByteArray) : Prop := W.heap[g]? = some (.cells (letCells v0 v1 v2 v3 v4 v5 A n c p) 24 (0, 0))
theorem let_cells {W : World} {g : Nat} {v0 v1 v2 v3 v4 v5 : Int} {A : Option Addr} {n c : Nat} {p : ByteArray} (h : LetAt W g v0 v1 v2 v3 v4 v5 A n c p) :
    W.cell? ⟨g, 0, none⟩ = some (.int .i64 v0) ∧ W.cell? ⟨g, 1, none⟩ = some (.int .i64 v1) ∧ W.cell? ⟨g, 2, none⟩ = some (.int .i64 v2) ∧ W.cell? ⟨g, 3, none⟩ = some (.int .i64 v3) ∧ W.cell? ⟨g, 4, none⟩ = some (.int .i64 v4) ∧ W.cell? ⟨g, 5, none⟩ = some (.int .i64 v5) ∧
    W.cell? ⟨g, 6, none⟩ = some (.slice A n c) ∧ W.cell? ⟨g, 7, none⟩ = some (.string p) :=
  ⟨by rw [cell_of h]; rfl, by rw [cell_of h]; rfl, by rw [cell_of h]; rfl, by rw [cell_of h]; rfl, by rw [cell_of h]; rfl, by rw [cell_of h]; rfl, by rw [cell_of h]; rfl, by rw [cell_of h]; rfl⟩
def WrPost (v : List Int) (l : List ByteArray) (p : ByteArray) (w : World) (ev : Ending) (w' : World) : Prop :=
  ev = .returned (if wright v l p then .tuple #[.string ⟨(lbytes v l p).toArray⟩, .nilIface] else .tuple #[.string ⟨#[]⟩, errno 1]) ∧ Below w.heap.size w w'
set_option maxRecDepth 100000 in
set_option maxHeartbeats 8000000 in
theorem wwrite_no (v0 v1 v2 v3 v4 v5 : Int) (A : Option Addr) (c : Nat) (l : List ByteArray) (p : ByteArray) (w : World) (hC : Kd.C Kd.string w A l.length l) (hc : l.length ≤ c) (hn : l.length ≤ 1000000000000) (hs : ∀ x ∈ l, x.size ≤ 140737488351232) (hr : wright [v0, v1, v2, v3, v4, v5] l p = false) :
    Calls Tryz.prog 7 #[.agg (letCells v0 v1 v2 v3 v4 v5 A l.length c p)] w (WrPost [v0, v1, v2, v3, v4, v5] l p w) := by
  obtain ⟨w1, hw1⟩ : ∃ w1, w1 = w.alloc (.cells (letCells v0 v1 v2 v3 v4 v5 A l.length c p) 24) := ⟨_, rfl⟩
  have hb1 : Below w.heap.size w w1 := by rw [hw1]; exact (Below.refl _ _).alloc (Nat.le_refl _) _
  have hg : LetAt w1 w.heap.size v0 v1 v2 v3 v4 v5 A l.length c p := by unfold LetAt; rw [hw1]; exact heap_alloc_at _ _
  have CR := right_c v0 v1 v2 v3 v4 v5 A c l p w1 (Kd.C_below hC hb1) hc hn hs
  rw [hr] at CR
  obtain ⟨c0, c1, c2, c3, c4, c5, c6, c7⟩ := let_cells hg
  unfold WrPost
  rw [hr]
  unfold letCells at *
  obtain ⟨n, hN⟩ : ∃ n, n = l.length := ⟨_, rfl⟩
  rw [← hN] at hc hn CR c6 hw1 ⊢
  have CRH := Lib.hid CR
  have hb1H := Lib.hid hb1
  replace hN := Lib.hid hN
  clear hC hg hb1 CR hr
  go_enter Tryz.func7, Tryz.ntmps7
  go_upto_region 1 with fail
  rw [← hw1]
  replace hw1 := Lib.hid hw1
  go_wp2_with fail
  refine (CRH.out).mono ?_
  rintro ev w2 ⟨rfl, hb2⟩
  replace hb2 := Lib.hid hb2
  go_wp2_with fail
  go_ret2
  exact ⟨rfl, hb1H.out.trans (hb2.out.mono hb1H.out.size)⟩
theorem let_of {W W' : World} {g : Nat} {v0 v1 v2 v3 v4 v5 : Int} {A : Option Addr} {n c : Nat} {p : ByteArray} (h : LetAt W g v0 v1 v2 v3 v4 v5 A n c p) (hb : W'.heap[g]? = W.heap[g]?) : LetAt W' g v0 v1 v2 v3 v4 v5 A n c p := by unfold LetAt; rw [hb]; exact h
theorem lnums_take (v : List Int) (k : Nat) (h : k < v.length) : lnums (v.take (k + 1)) = lnums (v.take k) ++ [txt (Lib.itoa (v.getD k 0))] := by
  unfold lnums
  rw [List.take_add_one, List.getElem?_eq_getElem h, List.map_append, List.getD_eq_getElem?_getD, List.getElem?_eq_getElem h]
  rfl
theorem lhave_take (l : List ByteArray) (k : Nat) (h : k < l.length) : lhave (l.take (k + 1)) = lhave (l.take k) ++ [txt (l.getD k ByteArray.empty).data.toList] := by
  unfold lhave
  rw [List.take_add_one, List.getElem?_eq_getElem h, List.map_append, List.getD_eq_getElem?_getD, List.getElem?_eq_getElem h]
  rfl
theorem num_itoa {x : Int} (h : 0 ≤ x) : (num x.toNat).data.toList = Lib.itoa x := by
  obtain ⟨m, rfl⟩ : ∃ m : Nat, x = (m : Int) := ⟨x.toNat, by omega⟩
  rw [Lib.itoa_nonneg, show ((m : Int)).toNat = m from by omega]
  unfold num
  simp
theorem cell_alloc {w : World} {q : Addr} {v : Value} (h : w.cell? q = some v) (o : Obj) : (w.alloc o).cell? q = some v := by
  rw [World.cell?_of_block (heap_alloc_lt w o _ (World.block_lt_of_cell? w q h))]; exact h
set_option maxRecDepth 100000 in
set_option maxHeartbeats 16000000 in
theorem wwrite_yes (v0 v1 v2 v3 v4 v5 : Int) (A : Option Addr) (c : Nat) (l : List ByteArray) (p : ByteArray) (w : World) (hC : Kd.C Kd.string w A l.length l) (hc : l.length ≤ c) (hs : ∀ x ∈ l, x.size ≤ 140737488351232) (hr : wright [v0, v1, v2, v3, v4, v5] l p = true) (htab : Tab w) (hgB : 1 < w.heap.size) :
    Calls Tryz.prog 7 #[.agg (letCells v0 v1 v2 v3 v4 v5 A l.length c p)] w (WrPost [v0, v1, v2, v3, v4, v5] l p w) := by
  obtain ⟨hl128, hs64, hp12⟩ := wright_have hr
  obtain ⟨w1, hw1⟩ : ∃ w1, w1 = w.alloc (.cells (letCells v0 v1 v2 v3 v4 v5 A l.length c p) 24) := ⟨_, rfl⟩
  have hb1 : Below w.heap.size w w1 := by rw [hw1]; exact (Below.refl _ _).alloc (Nat.le_refl _) _
  have hg : LetAt w1 w.heap.size v0 v1 v2 v3 v4 v5 A l.length c p := by unfold LetAt; rw [hw1]; exact heap_alloc_at _ _
  have CR := right_c v0 v1 v2 v3 v4 v5 A c l p w1 (Kd.C_below hC hb1) hc (by omega) hs
  rw [hr] at CR
  obtain ⟨c0, c1, c2, c3, c4, c5, c6, c7⟩ := let_cells hg
  have hgH := Lib.hid hg
  have hgl := Lib.hid (show w.heap.size < w1.heap.size from heap_lt hg)
  unfold WrPost
  rw [hr]
  unfold letCells at hw1 CR ⊢
  obtain ⟨n, hN⟩ : ∃ n, n = l.length := ⟨_, rfl⟩
  rw [← hN] at hc CR c6 hw1 hl128 ⊢
  have CRH := Lib.hid CR
  have hb1H := Lib.hid hb1
  replace hN := Lib.hid hN
  have hCH := Lib.hid hC
  have hrH := Lib.hid hr
  have hs64H := Lib.hid hs64
  have htabH := Lib.hid htab
  have hgBH := Lib.hid hgB
  obtain ⟨g, hgs⟩ : ∃ g, g = w.heap.size := ⟨_, rfl⟩
  rw [← hgs] at c0 c1 c2 c3 c4 c5 c6 c7
  have hgg := Lib.hid (show LetAt w1 g v0 v1 v2 v3 v4 v5 A l.length c p by rw [hgs]; exact hgH.out)
  obtain ⟨vs, hvs⟩ : ∃ vs, vs = [v0, v1, v2, v3, v4, v5] := ⟨_, rfl⟩
  have hvs6 : vs.length = 6 := by rw [hvs]; rfl
  rw [← hvs] at hrH ⊢
  replace hvs := Lib.hid hvs
  have hvs6H := Lib.hid hvs6
  clear hvs6
  clear hC hg hb1 CR hr hs64 hgH htab hgB hs
  go_enter Tryz.func7, Tryz.ntmps7
  go_upto_region 1 with fail
  rw [← hw1, ← hgs]
  replace hw1 := Lib.hid hw1
  have hgsH := Lib.hid hgs
  rw [← hgs] at hgl
  clear hgs
  go_wp2_with fail
  refine (CRH.out).mono ?_
  rintro ev w2 ⟨rfl, hb2⟩
  have hg2 := let_of hgg.out (hb2.block _ hgl.out)
  have hb2H := Lib.hid (hb1H.out.trans (hb2.mono hb1H.out.size))
  have hgl2 := Lib.hid (heap_lt hg2)
  clear hb2 c0 c1 c2 c3 c4 c5 c6 c7 CRH
  go_wp2_with fail
  refine (list_c none 0 0 w2).mono ?_
  rintro ev w3 ⟨rfl, hb3⟩
  have hg3 := let_of hg2 (hb3.block _ hgl2.out)
  have hb3H := Lib.hid (hb2H.out.trans (hb3.mono hb2H.out.size))
  have hgl3 := Lib.hid (heap_lt hg3)
  obtain ⟨bf, hbf⟩ : ∃ bf, bf = w3.heap.size := ⟨_, rfl⟩
  obtain ⟨w4, hw4⟩ : ∃ w4, w4 = w3.alloc (.cells #[.bool true, .string ⟨#[]⟩, .slice none 0 0] 52) := ⟨_, rfl⟩
  have hs4 := Lib.hid (show w4.heap.size = bf + 1 by rw [hw4, hbf]; simp)
  have hf4 : w4.heap[bf]? = some (.cells #[.bool true, .string ⟨#[]⟩, .slice none 0 0] 52 (0, 0)) := by rw [hw4, hbf]; exact heap_alloc_at _ _
  have hg4 := let_of hg3 (show w4.heap[g]? = _ by rw [hw4]; exact heap_alloc_lt _ _ _ hgl3.out)
  have hgbf := Lib.hid (show g < bf by rw [hbf]; exact hgl3.out)
  have hb4H := Lib.hid (show Below w.heap.size w w4 by rw [hw4]; exact hb3H.out.alloc (by rw [← hgsH.out]; exact Nat.le_of_lt hgl3.out) _)
  have CN := Lib.hid (numbers_c g w4)
  have hf4H := Lib.hid hf4
  have hg4H := Lib.hid hg4
  clear hb3 hg2 hg3 hf4 hg4
  unfold vlist
  go_upto_region 4 with fail
  rw [← hw4, ← hbf]
  replace hw4 := Lib.hid hw4
  replace hbf := Lib.hid hbf
  go_wp2_with fail
  refine (CN.out).mono ?_
  rintro ev w5 ⟨A2, t2, rfl, hA2, hrow, hb5⟩
  have hrowH := Lib.hid hrow
  have hg5 := Lib.hid (let_of hg4H.out (hb5.block _ (heap_lt hg4H.out)))
  have hf5 := Lib.hid ((hb5.block _ (heap_lt hf4H.out)).trans hf4H.out)
  have hA2H := Lib.hid (show bf < A2 by have := hs4.out; omega)
  have hb5H := Lib.hid (hb4H.out.trans (hb5.mono hb4H.out.size))
  have hbf5 := Lib.hid (heap_lt hf5.out)
  clear hrow hb5 hA2
  go_wp2_with fail
  go_loopg [19] 6 (fun g' i W => ∃ (k : Nat) (v : Value), g' = 6 - k ∧ k ≤ 6 ∧ i = .int .i64 k ∧ W.heap[bf]? = some (.cells #[.bool true, .string ⟨#[]⟩, v] 52 (0, 0)) ∧ Bag w5.heap.size W v (lnums (vs.take k)) ∧ Tch (fun b => b = bf) w5 W)
  case atStart => exact ⟨0, .slice none 0 0, rfl, by omega, rfl, hf5.out, Bag.nil _ _, Tch.refl _ _⟩
  case round =>
    obtain ⟨k, v, hg', hk, rfl, hfb, hbag, hT⟩ := hrel
    subst hg'
    have hrowr := hT.heap hrowH.out (show ¬ A2 = bf by have := hA2H.out; omega)
    have hletr := let_of hg5.out (hT.block _ (heap_lt hg5.out) (show ¬ g = bf by have := hgbf.out; omega))
    have hfbH := Lib.hid hfb
    have hbagH := Lib.hid hbag
    have hTH := Lib.hid hT
    by_cases hk6 : k < 6
    · have hki : (k : Int) < 6 := by omega
      obtain ⟨hx0, hx1⟩ := wright_nums hrH.out k hk6
      have hp1 : wr.cell? ⟨A2, k * 2, none⟩ = some (.pointer (some ⟨g, k, none⟩)) := by rw [cell_of hrowr]; exact row_ptr g k hk6
      have hp2 : wr.cell? ⟨A2, k * 2 + 1, none⟩ = some (.int .i64 (lim k)) := by rw [cell_of hrowr]; exact row_lim g k hk6
      have hp3 : wr.cell? ⟨g, k, none⟩ = some (.int .i64 (vs.getD k 0)) := by rw [cell_of hletr, hvs.out]; exact let_num _ _ _ _ _ _ _ _ _ _ k hk6
      have hnext := Lib.hid (lnums_take vs k (by rw [hvs6H.out]; exact hk6))
      generalize vs.getD k 0 = x at *
      obtain ⟨m, hm⟩ : ∃ m, m = lim k := ⟨_, rfl⟩
      rw [← hm] at hp2
      replace hm := Lib.hid hm
      obtain ⟨q, hq⟩ : ∃ q, q = wr.heap.size := ⟨_, rfl⟩
      obtain ⟨W1, hW1⟩ : ∃ W1, W1 = wr.alloc (.cells #[.pointer (some ⟨g, k, none⟩), .int .i64 m] 58) := ⟨_, rfl⟩
      have hq1 : W1.cell? ⟨q, 0, none⟩ = some (.pointer (some ⟨g, k, none⟩)) := by rw [hW1, hq]; exact (cell_of (heap_alloc_at _ _) 0).trans rfl
      have hq3 : W1.cell? ⟨g, k, none⟩ = some (.int .i64 x) := by rw [hW1]; exact cell_alloc hp3 _
      have hq2 : W1.cell? ⟨bf, 2, none⟩ = some v := by rw [hW1]; exact cell_alloc (by rw [cell_of hfb]; rfl) _
      obtain ⟨S, hS⟩ : ∃ S : World → Prop, S = fun W => W.cell? ⟨bf, 2, none⟩ = some v ∧ W.cell? ⟨q, 0, none⟩ = some (.pointer (some ⟨g, k, none⟩)) ∧ W.cell? ⟨g, k, none⟩ = some (.int .i64 x) := ⟨_, rfl⟩
      have hSi : ∀ W, S W ↔ (W.cell? ⟨bf, 2, none⟩ = some v ∧ W.cell? ⟨q, 0, none⟩ = some (.pointer (some ⟨g, k, none⟩)) ∧ W.cell? ⟨g, k, none⟩ = some (.int .i64 x)) := fun W => by rw [hS]
      have hS0 : S W1.drew := (hSi _).2 ⟨hq2, hq1, hq3⟩
      have s1 : ∀ X : InS S, X.val.cell? ⟨bf, 2, none⟩ = some v := fun X => ((hSi X.val).1 X.mem).1
      have s2 : ∀ X : InS S, X.val.cell? ⟨q, 0, none⟩ = some (.pointer (some ⟨g, k, none⟩)) := fun X => ((hSi X.val).1 X.mem).2.1
      have s3 : ∀ X : InS S, X.val.cell? ⟨g, k, none⟩ = some (.int .i64 x) := fun X => ((hSi X.val).1 X.mem).2.2
      have hne : Nonempty (InS S) := ⟨⟨W1.drew, hS0⟩⟩
      have hS0H := Lib.hid hS0
      have hSiH := Lib.hid hSi
      clear hS hSi hq1 hq2 hq3 hfb hbag hT hrowr hletr hS0
      go_upto_region 7 with fail
      rw [← hW1, ← hq]
      replace hW1 := Lib.hid hW1
      replace hq := Lib.hid hq
      refine wp_region_reads S [0, 1, 2, 3, 4, 5] [6, 7, 8, 9, 10] (by kernel_rfl) (by kernel_rfl) hS0H.out ?_
      simp only [pick, List.getD_cons_zero, List.getD_cons_succ]
      repeat (go_big_quiet_step (fail))
      refine wpQuiet_nil ?_
      rw [wpChain]
      have CNum := fun W (h : Tab W) => Lib.hid (num_c x.toNat (by omega) W h)
      rw [show ((x.toNat : Nat) : Int) = x from by omega] at CNum
      have hbW1 := Lib.hid (show Below wr.heap.size wr W1 from by rw [hW1.out]; exact (Below.refl _ _).alloc (Nat.le_refl _) _)
      have hbW := Lib.hid (show Below w5.heap.size w5 wr → Below w.heap.size w W1.drew from fun h => hb5H.out.trans (((h.trans (hbW1.out.mono h.size)).drew).mono hb5H.out.size))
      have hT5 := Lib.hid (hTH.out.below (B := w.heap.size) (by exact hb5H.out.size) (fun k hk _ => by subst hk; have := hgbf.out; rw [hgsH.out] at this; omega))
      have hbWr := Lib.hid (show Below w.heap.size w W1.drew from hb5H.out.trans ((hT5.out.trans (hbW1.out.mono (Nat.le_trans hb5H.out.size hT5.out.size))).drew))
      have htabw := Lib.hid (htabH.out.keep hbWr.out hgBH.out)
      obtain ⟨t1, t2, t3⟩ := (hSiH.out _).1 hS0H.out
      go_wp2_with (go_at_call 19; with_reducible refine ((CNum _ htabw.out).out).mono ?_; rintro ev w6 ⟨rfl, hb6⟩)
      have r1 := keepc hb6 t1
      have r2 := keepc hb6 t2
      have r3 := keepc hb6 t3
      have hb6H := Lib.hid hb6
      unfold vtext
      refine ⟨⟨⟨w6, (hSiH.out _).2 ⟨r1, r2, r3⟩⟩, rfl⟩, ?_⟩
      rw [wpChain]
      go_wp2_with fail
      refine ⟨⟨⟨_, (hSiH.out _).2 ⟨cell_alloc r1 _, cell_alloc r2 _, cell_alloc r3 _⟩⟩, rfl⟩, ?_⟩
      rw [wpChain]
      have hnb := Lib.hid (show ∀ b, b < w5.heap.size → some b ≠ v.ownBlock from fun b hb e => by have := (hbagH.out.lt _ e.symm).1; omega)
      have hbr6 := Lib.hid (show Below wr.heap.size wr w6 from ((hbW1.out.drew).trans (hb6H.out.mono (by show wr.heap.size ≤ W1.heap.size; exact hbW1.out.size))))
      have hbag6 := Lib.hid (hbagH.out.keep (w' := w6) (fun b h1 h2 => hbr6.out.block b h2) hbr6.out.size)
      have hqlo := Lib.hid (show wr.heap.size ≤ q from by rw [hq.out]; exact Nat.le_refl _)
      have hT5s := hT5.out.size
      have hlen := Lib.hid (show (lnums (vs.take k)).length = k from by unfold lnums; rw [List.length_map, List.length_take, hvs6H.out]; omega)
      go_wp2_with (at_builtin; refine bag_app (by rfl) _ _ _ (by rfl) Tryz.underlying50 (by rfl) k 1 1 (by rfl) (by rfl) hbag6.out (FC.texts _) hlen.out (by rfl) (by omega) (by omega) (Nat.le_trans hTH.out.size hbr6.out.size) ?_; intro g7 cap7 w7 hbag7 hgrew7)
      have hbf5' := hbf5.out
      have hg5' := heap_lt hg5.out
      have u1 := hgrew7.cell r1 (hnb.out bf hbf5')
      have u2 := hgrew7.cell r2 (show some q ≠ v.ownBlock from fun e => by have := (hbagH.out.lt _ e.symm).2; have := hqlo.out; omega)
      have u3 := hgrew7.cell r3 (hnb.out g hg5')
      have hf7 := hgrew7.heap ((hbr6.out.block _ (heap_lt hfbH.out)).trans hfbH.out) (hnb.out bf hbf5')
      refine ⟨⟨⟨w7, (hSiH.out _).2 ⟨u1, u2, u3⟩⟩, rfl⟩, ?_⟩
      rw [wpChain]
      go_wp2_with fail
      refine ⟨⟨⟨w7, (hSiH.out _).2 ⟨u1, u2, u3⟩⟩, rfl⟩, ?_⟩
      rw [wpChain]
      have z7 : w7.frozen? ⟨bf, 2, none⟩ = false := fr_of hf7 2
      have hf7H := Lib.hid hf7
      have hbag7H := Lib.hid hbag7
      have hgrew7H := Lib.hid hgrew7
      clear hf7 hbag7 hgrew7 hbf5' hg5' hT5s
      go_wp2_with fail
      refine stepPost_last ?_
      go_wp2_with fail
      go_roundg (6 - (k + 1))
      case measure => omega
      case rel =>
        refine ⟨k + 1, .slice (some ⟨g7, 0, none⟩) (k + 1) cap7, rfl, by omega, by go_num, heap_set _ _ _ _ _ _ _ hf7H.out, ?_, ?_⟩
        · rw [hnext.out, ← num_itoa hx0]
          exact hbag7H.out.keep (fun b h1 h2 => heap_set_ne _ _ _ _ (by show b ≠ bf; have := hbf5.out; omega)) (by rw [size_set]; exact Nat.le_refl _)
        · exact (hgrew7H.out.tch (hTH.out.trans (Tch.of_new hbr6.out)) (fun b hb => (hbagH.out.lt b hb).1)).setCell ⟨bf, 2, none⟩ (fun _ => rfl) _
    · have hk6e : k = 6 := by omega
      subst hk6e
      have hki : ¬ ((6 : Nat) : Int) < 6 := by omega
      have htake : vs.take 6 = vs := List.take_of_length_le (by rw [hvs6H.out]; exact Nat.le_refl _)
      rw [htake] at hbagH
      clear htake hfb hbag hT hrowr
      have hT5 := Lib.hid (hTH.out.below (B := w.heap.size) (by exact hb5H.out.size) (fun k hk _ => by subst hk; have := hgbf.out; rw [hgsH.out] at this; omega))
      have hglr := Lib.hid (heap_lt hletr)
      have hletH := Lib.hid hletr
      clear hletr
      go_wp2_with fail
      refine (list_c none 0 0 wr).mono ?_
      rintro ev w7 ⟨rfl, hb7⟩
      unfold vlist
      obtain ⟨bh, hbh⟩ : ∃ bh, bh = w7.heap.size := ⟨_, rfl⟩
      obtain ⟨w8, hw8⟩ : ∃ w8, w8 = w7.alloc (.cells #[.bool true, .string ⟨#[]⟩, .slice none 0 0] 52) := ⟨_, rfl⟩
      have hs8 := Lib.hid (show w8.heap.size = bh + 1 by rw [hw8, hbh]; simp)
      have hb8 := Lib.hid (show Below wr.heap.size wr w8 by rw [hw8]; exact hb7.alloc hb7.size _)
      have hh8 := Lib.hid (show w8.heap[bh]? = some (.cells #[.bool true, .string ⟨#[]⟩, .slice none 0 0] 52 (0, 0)) by rw [hw8, hbh]; exact heap_alloc_at _ _)
      have hl8 := Lib.hid (let_of hletH.out (hb8.out.block _ hglr.out))
      have hf8 := Lib.hid ((hb8.out.block _ (heap_lt hfbH.out)).trans hfbH.out)
      have hbhl := Lib.hid (show wr.heap.size ≤ bh by rw [hbh]; exact hb7.size)
      obtain ⟨e0, e1, e2, e3, e4, e5, e6, e7⟩ := let_cells hl8.out
      rw [← hN.out] at e6
      clear hb7 e0 e1 e2 e3 e4 e5 e7
      go_upto_region 10 with fail
      rw [← hw8, ← hbh]
      replace hw8 := Lib.hid hw8
      replace hbh := Lib.hid hbh
      go_wp2_with fail
      have hncH := Lib.hid hc
      have hmL := Lib.hid hl128
      obtain ⟨wa, hwa⟩ : ∃ wa, wa = wr := ⟨_, rfl⟩
      rw [← hwa] at hfbH hbagH hTH hT5 hglr hletH hb8 hbhl
      clear hwa
      obtain ⟨vf, hvf⟩ : ∃ vf, vf = v := ⟨_, rfl⟩
      rw [← hvf] at hfbH hbagH hf8
      clear hvf
      go_loopg [38] n (fun g' i W => ∃ (k : Nat) (v : Value), g' = n - k ∧ k ≤ n ∧ i = .int .i64 k ∧ W.heap[bh]? = some (.cells #[.bool true, .string ⟨#[]⟩, v] 52 (0, 0)) ∧ Bag w8.heap.size W v (lhave (l.take k)) ∧ Tch (fun b => b = bh) w8 W)
      case atStart => exact ⟨0, .slice none 0 0, rfl, by omega, rfl, hh8.out, Bag.nil _ _, Tch.refl _ _⟩
      case round =>
        obtain ⟨k, v, hg', hk, rfl, hhb, hbag, hT⟩ := hrel
        subst hg'
        have hhbH := Lib.hid hhb
        have hbag2 := Lib.hid hbag
        have hT2 := Lib.hid hT
        have hw8s := Lib.hid (show w.heap.size ≤ w8.heap.size from Nat.le_trans (Nat.le_trans hb5H.out.size (Nat.le_trans hTH.out.size hb8.out.size)) (Nat.le_refl _))
        have hgb := Lib.hid (show w.heap.size ≤ bh from Nat.le_trans (Nat.le_trans hb5H.out.size hTH.out.size) hbhl.out)
        have hbr := Lib.hid (show Below w.heap.size w wr from ((hb5H.out.trans (hT5.out)).trans (hb8.out.mono (Nat.le_trans hb5H.out.size hTH.out.size))).trans (hT2.out.below (B := w.heap.size) hw8s.out (fun k hk _ => by subst hk; exact hgb.out)))
        by_cases hkn : k < n
        · have hki : (k : Int) < (n : Int) := by omega
          have hkl : k < l.length := by rw [← hN.out]; exact hkn
          obtain ⟨b, o, rfl, hcell⟩ := str_cell (Kd.C_below hCH.out hbr.out) k hkl
          have hnext := Lib.hid (lhave_take l k hkl)
          generalize l.getD k ByteArray.empty = x at *
          have hq2 : wr.cell? ⟨bh, 2, none⟩ = some v := by rw [cell_of hhb]; rfl
          obtain ⟨S, hS⟩ : ∃ S : World → Prop, S = fun W => W.cell? ⟨bh, 2, none⟩ = some v := ⟨_, rfl⟩
          have hSi : ∀ W, S W ↔ W.cell? ⟨bh, 2, none⟩ = some v := fun W => by rw [hS]
          have hS0 : S wr.drew := (hSi _).2 hq2
          have s1 : ∀ X : InS S, X.val.cell? ⟨bh, 2, none⟩ = some v := fun X => (hSi X.val).1 X.mem
          have hne : Nonempty (InS S) := ⟨⟨wr.drew, hS0⟩⟩
          have hS0H := Lib.hid hS0
          have hSiH := Lib.hid hSi
          clear hS hSi hq2 hhb hbag hT hS0
          go_upto_region 13 with fail
          refine wp_region_reads S [0, 1, 2] [3, 4, 5, 6, 7] (by kernel_rfl) (by kernel_rfl) hS0H.out ?_
          simp only [pick, List.getD_cons_zero, List.getD_cons_succ]
          repeat (go_big_quiet_step (fail))
          refine wpQuiet_nil ?_
          have hbhs := heap_lt hhbH.out
          have hnb := Lib.hid (show ∀ b, b < w8.heap.size → some b ≠ v.ownBlock from fun b hb e => by have := (hbag2.out.lt _ e.symm).1; omega)
          have hbh8 := heap_lt hh8.out
          rw [wpChain]
          go_wp2_with (go_at_call 20; with_reducible refine (text_c _ _).mono ?_; rintro ev w9 ⟨rfl, hb9⟩)
          have r1 := keepc hb9 ((hSiH.out _).1 hS0H.out)
          have hbr9 := Lib.hid (show Below wr.heap.size wr w9 from ((Below.refl wr.heap.size wr).drew).trans hb9)
          have hbag9 := Lib.hid (hbag2.out.keep (w' := w9) (fun b h1 h2 => hbr9.out.block b h2) hbr9.out.size)
          clear hb9
          unfold vtext
          refine ⟨⟨⟨w9, (hSiH.out _).2 r1⟩, rfl⟩, ?_⟩
          rw [wpChain]
          go_wp2_with fail
          refine ⟨⟨⟨_, (hSiH.out _).2 (cell_alloc r1 _)⟩, rfl⟩, ?_⟩
          rw [wpChain]
          have hlen := Lib.hid (show (lhave (l.take k)).length = k from by unfold lhave; rw [List.length_map, List.length_take]; omega)
          have hmL' := hmL.out
          go_wp2_with (at_builtin; refine bag_app (by rfl) _ _ _ (by rfl) Tryz.underlying50 (by rfl) k 1 1 (by rfl) (by rfl) hbag9.out (FC.texts _) hlen.out (by rfl) (by omega) (by omega) (Nat.le_trans hT2.out.size hbr9.out.size) ?_; intro g7 cap7 w10 hbag10 hgrew10)
          have u1 := hgrew10.cell r1 (hnb.out bh hbh8)
          have hf10 := hgrew10.heap ((hbr9.out.block _ (heap_lt hhbH.out)).trans hhbH.out) (hnb.out bh hbh8)
          refine ⟨⟨⟨w10, (hSiH.out _).2 u1⟩, rfl⟩, ?_⟩
          rw [wpChain]
          go_wp2_with fail
          refine ⟨⟨⟨w10, (hSiH.out _).2 u1⟩, rfl⟩, ?_⟩
          rw [wpChain]
          have z10 : w10.frozen? ⟨bh, 2, none⟩ = false := fr_of hf10 2
          have hf10H := Lib.hid hf10
          have hbag10H := Lib.hid hbag10
          have hgrew10H := Lib.hid hgrew10
          clear hf10 hbag10 hgrew10 hbh8 hbhs
          go_wp2_with fail
          refine stepPost_last ?_
          go_wp2_with fail
          go_roundg (n - (k + 1))
          case measure => omega
          case rel =>
            refine ⟨k + 1, .slice (some ⟨g7, 0, none⟩) (k + 1) cap7, rfl, by omega, by go_num, heap_set _ _ _ _ _ _ _ hf10H.out, ?_, ?_⟩
            · rw [hnext.out]
              exact hbag10H.out.keep (fun b h1 h2 => heap_set_ne _ _ _ _ (by show b ≠ bh; have := hs8.out; omega)) (by rw [size_set]; exact Nat.le_refl _)
            · exact (hgrew10H.out.tch (hT2.out.trans (Tch.of_new hbr9.out)) (fun b hb => (hbag2.out.lt b hb).1)).setCell ⟨bh, 2, none⟩ (fun _ => rfl) _
        · have hkn' : k = n := by omega
          subst hkn'
          have hki : ¬ (k : Int) < (k : Int) := by omega
          have ht : l.take k = l := List.take_of_length_le (by rw [← hN.out]; exact Nat.le_refl _)
          rw [ht] at hbag2
          clear ht
          have hfr := Lib.hid (hT2.out.heap hf8.out (show ¬ bf = bh by have := hbhl.out; have := hbf5.out; have := hTH.out.size; omega))
          have hlr := Lib.hid (let_of hl8.out (hT2.out.block _ (heap_lt hl8.out) (show ¬ g = bh by have := hbhl.out; have := hglr.out; omega)))
          have hbagF := Lib.hid (hbagH.out.keep (w' := wr) (fun b h1 h2 => (hT2.out.block b (Nat.lt_of_lt_of_le h2 hb8.out.size) (show ¬ b = bh by have := hbhl.out; omega)).trans (hb8.out.block b h2)) (Nat.le_trans hb8.out.size hT2.out.size))
          obtain ⟨Ah, ch, rfl, hcl, hcm, hks⟩ := hbag2.out.form
          have hll : (lhave l).length = k := by unfold lhave; rw [List.length_map]; exact hN.out.symm
          rw [hll] at hcl hhbH hhb
          have hksH := Lib.hid hks
          have hclH := Lib.hid hcl
          have hq1 : wr.cell? ⟨bf, 2, none⟩ = some vf := by rw [cell_of hfr.out]; rfl
          obtain ⟨hq2, hq3, hq4, _, _⟩ := blk3 hhb
          have hq5 : wr.cell? ⟨g, 7, none⟩ = some (.string p) := (let_cells hlr.out).2.2.2.2.2.2.2
          obtain ⟨S, hS⟩ : ∃ S : World → Prop, S = fun W => W.cell? ⟨bf, 2, none⟩ = some vf ∧ W.cell? ⟨bh, 0, none⟩ = some (.bool true) ∧ W.cell? ⟨bh, 1, none⟩ = some (.string ⟨#[]⟩) ∧ W.cell? ⟨bh, 2, none⟩ = some (.slice Ah k ch) ∧ W.cell? ⟨g, 7, none⟩ = some (.string p) := ⟨_, rfl⟩
          have hSi : ∀ W, S W ↔ (W.cell? ⟨bf, 2, none⟩ = some vf ∧ W.cell? ⟨bh, 0, none⟩ = some (.bool true) ∧ W.cell? ⟨bh, 1, none⟩ = some (.string ⟨#[]⟩) ∧ W.cell? ⟨bh, 2, none⟩ = some (.slice Ah k ch) ∧ W.cell? ⟨g, 7, none⟩ = some (.string p)) := fun W => by rw [hS]
          have hS0 : S wr.drew := (hSi _).2 ⟨hq1, hq2, hq3, hq4, hq5⟩
          have s1 : ∀ X : InS S, X.val.cell? ⟨bf, 2, none⟩ = some vf := fun X => ((hSi X.val).1 X.mem).1
          have s2 : ∀ X : InS S, X.val.cell? ⟨bh, 0, none⟩ = some (.bool true) := fun X => ((hSi X.val).1 X.mem).2.1
          have s3 : ∀ X : InS S, X.val.cell? ⟨bh, 1, none⟩ = some (.string ⟨#[]⟩) := fun X => ((hSi X.val).1 X.mem).2.2.1
          have s4 : ∀ X : InS S, X.val.cell? ⟨bh, 2, none⟩ = some (.slice Ah k ch) := fun X => ((hSi X.val).1 X.mem).2.2.2.1
          have s5 : ∀ X : InS S, X.val.cell? ⟨g, 7, none⟩ = some (.string p) := fun X => ((hSi X.val).1 X.mem).2.2.2.2
          have hne : Nonempty (InS S) := ⟨⟨wr.drew, hS0⟩⟩
          have hS0H := Lib.hid hS0
          have hSiH := Lib.hid hSi
          clear hS hSi hq1 hq2 hq3 hq4 hq5 hhb hbag hT hS0 hks hcl hll
          go_upto_region 15 with fail
          refine wp_region_reads S [0, 1, 2, 3, 4] [5, 6, 7, 8, 9] (by kernel_rfl) (by kernel_rfl) hS0H.out ?_
          simp only [pick, List.getD_cons_zero, List.getD_cons_succ]
          repeat (go_big_quiet_step (fail))
          refine wpQuiet_nil ?_
          have hvfw := Lib.hid (show ∀ b, vf.ownBlock = some b → w5.heap.size ≤ b ∧ b < wa.heap.size from fun b hb => hbagH.out.lt b hb)
          rw [wpChain]
          go_wp2_with (go_at_call 20; with_reducible refine (text_c _ _).mono ?_; rintro ev w9 ⟨rfl, hb9⟩)
          obtain ⟨t1, t2, t3, t4, t5⟩ := (hSiH.out _).1 hS0H.out
          have r1 := keepc hb9 t1
          have r2 := keepc hb9 t2
          have r3 := keepc hb9 t3
          have r4 := keepc hb9 t4
          have r5 := keepc hb9 t5
          have hbr9 := Lib.hid (show Below wr.heap.size wr w9 from ((Below.refl wr.heap.size wr).drew).trans hb9)
          have hbag9 := Lib.hid (hbagF.out.keep (w' := w9) (fun b h1 h2 => hbr9.out.block b h2) hbr9.out.size)
          clear hb9 t1 t2 t3 t4 t5
          unfold vtext
          refine ⟨⟨⟨w9, (hSiH.out _).2 ⟨r1, r2, r3, r4, r5⟩⟩, rfl⟩, ?_⟩
          rw [wpChain]
          go_wp2_with fail
          refine ⟨⟨⟨_, (hSiH.out _).2 ⟨cell_alloc r1 _, cell_alloc r2 _, cell_alloc r3 _, cell_alloc r4 _, cell_alloc r5 _⟩⟩, rfl⟩, ?_⟩
          rw [wpChain]
          have hwa8 := hb8.out.size
          have hFl := Lib.hid (show FK (fun b => w5.heap.size ≤ b ∧ b < w9.heap.size ∧ some b ≠ vf.ownBlock) w9 (lst (lhave l)) [.bool true, .string ⟨#[]⟩, .slice Ah k ch] by
            unfold lst FK
            rw [show (lhave l).length = k from by unfold lhave; rw [List.length_map]; exact hN.out.symm]
            refine ⟨Ah, ch, rfl, hclH.out, by have := hmL.out; omega, FKs.move (fun b hb => ⟨⟨by have := hTH.out.size; omega, Nat.lt_of_lt_of_le hb.2 hbr9.out.size, fun e => by have := (hvfw.out b e.symm).2; omega⟩, hbr9.out.block b hb.2⟩) _ Ah 0 hksH.out⟩)
          have hlen := Lib.hid (show (lnums vs).length = 6 from by unfold lnums; rw [List.length_map]; exact hvs6H.out)
          go_wp2_with (at_builtin; refine bag_app (G := [lst (lhave l), txt p.data.toList]) (by rfl) _ _ _ (by rfl) Tryz.underlying50 (by rfl) 6 2 2 (by rfl) (by rfl) hbag9.out ⟨_, _, _, _, rfl, hFl.out, FC.texts _⟩ hlen.out (by rfl) (by omega) (by omega) (Nat.le_trans hTH.out.size (Nat.le_trans hwa8 (Nat.le_trans hT2.out.size hbr9.out.size))) ?_; intro g10 cap10 w10 hbag10 hgrew10)
          have hnb := Lib.hid (show ∀ b, b < w5.heap.size → some b ≠ vf.ownBlock from fun b hb e => by have := (hvfw.out b e.symm).1; omega)
          have hnh := Lib.hid (show some bh ≠ vf.ownBlock from fun e => by have := (hvfw.out bh e.symm).2; have := hbhl.out; omega)
          have hbf5' := hbf5.out
          have hg5' := heap_lt hg5.out
          have u1 := hgrew10.cell r1 (hnb.out bf hbf5')
          have u2 := hgrew10.cell r2 hnh.out
          have u3 := hgrew10.cell r3 hnh.out
          have u4 := hgrew10.cell r4 hnh.out
          have u5 := hgrew10.cell r5 (hnb.out g hg5')
          have hf10 := hgrew10.heap ((hbr9.out.block _ (heap_lt hfr.out)).trans hfr.out) (hnb.out bf hbf5')
          refine ⟨⟨⟨w10, (hSiH.out _).2 ⟨u1, u2, u3, u4, u5⟩⟩, rfl⟩, ?_⟩
          rw [wpChain]
          go_wp2_with fail
          refine ⟨⟨⟨w10, (hSiH.out _).2 ⟨u1, u2, u3, u4, u5⟩⟩, rfl⟩, ?_⟩
          rw [wpChain]
          have z10 : w10.frozen? ⟨bf, 2, none⟩ = false := fr_of hf10 2
          obtain ⟨w11, hw11⟩ : ∃ w11, w11 = w10.setCell ⟨bf, 2, none⟩ (.slice (some ⟨g10, 0, none⟩) (6 + 2) cap10) := ⟨_, rfl⟩
          have hf11 := Lib.hid (show w11.heap[bf]? = some (.cells #[.bool true, .string ⟨#[]⟩, .slice (some ⟨g10, 0, none⟩) (6 + 2) cap10] 52 (0, 0)) by rw [hw11]; exact heap_set _ _ _ _ _ _ _ hf10)
          have hbag11 := Lib.hid (show Bag w5.heap.size w11 (.slice (some ⟨g10, 0, none⟩) (6 + 2) cap10) (lbody vs l p) by
            rw [hw11]
            exact hbag10.keep (fun b h1 h2 => heap_set_ne _ _ _ _ (by show b ≠ bf; omega)) (by rw [size_set]; exact Nat.le_refl _))
          have hbr11 := Lib.hid (show Below w.heap.size w w11 by
            rw [hw11]
            exact (hgrew10.below (hbr.out.trans (hbr9.out.mono hbr.out.size)) (Nat.le_trans hbr.out.size hbr9.out.size) (fun b hb => Nat.le_trans hb5H.out.size (hvfw.out b hb).1)).setCell (by show w.heap.size ≤ bf; have := hgbf.out; rw [← hgsH.out]; omega) _)
          clear hf10 hbag10 hgrew10 hbf5' hg5' hwa8
          go_wp2_with fail
          refine stepPost_last ?_
          go_upto_region 16 with fail
          rw [← hw11]
          replace hw11 := Lib.hid hw11
          obtain ⟨a0, a1, a2, _, _⟩ := blk3 hf11.out
          obtain ⟨Af, cf, hfe, hfl, hfm, hfk⟩ := hbag11.out.form
          have hFV := FK.toFV (ok := fun b => w5.heap.size ≤ b ∧ b < w11.heap.size) (B := w11.heap.size) (fun b hb => hb.2) (lst (lbody vs l p)) [.bool true, .string ⟨#[]⟩, .slice (some ⟨g10, 0, none⟩) (6 + 2) cap10] (by
            unfold lst FK
            have hl8 : (lbody vs l p).length = 8 := by unfold lbody lnums; rw [List.length_append, List.length_map, hvs6H.out]; rfl
            rw [hl8] at hfe hfl ⊢
            refine ⟨Af, cf, by rw [hfe], hfl, by omega, hfk⟩)
          have hbl := lbody_len hvs6H.out hrH.out
          have CW1 := Lib.hid (write_any (lst (lbody vs l p)) _ _ _ w11 hFV (lbody_right _ _ _) (by rw [lst_depth, lbody_depths]; omega) (by omega) (htabH.out.keep hbr11.out hgBH.out) (Nat.lt_of_lt_of_le hgBH.out hbr11.out.size))
          have hdg : dg (lst (lbody vs l p)).bytes = Sha.sha Sha.K Sha.H0 ⟨(lst (lbody vs l p)).bytes.toArray⟩ := rfl
          have hfull : lfull vs l p = lbody vs l p ++ [txt (dg (lst (lbody vs l p)).bytes).data.toList] := rfl
          have hbs := arr_size (lst (lbody vs l p)).bytes
          generalize hbb : (ByteArray.mk (lst (lbody vs l p)).bytes.toArray) = bb at *
          replace hbb := Lib.hid hbb
          have hbb2 : bb.size ≤ 22000 := by omega
          have hdgH := Lib.hid hdg
          have hfullH := Lib.hid hfull
          clear hfe hfl hfm hfk hFV hbl hdg hfull hbs
          go_wp2_with fail
          refine (CW1.out).mono ?_
          rintro ev w12 ⟨rfl, hb12⟩
          have hf12 := Lib.hid ((hb12.block _ (heap_lt hf11.out)).trans hf11.out)
          have hbag12 := Lib.hid (hbag11.out.keep (w' := w12) (fun b h1 h2 => hb12.block b h2) hb12.size)
          have hbr12 := Lib.hid (hbr11.out.trans (hb12.mono hbr11.out.size))
          have hs12 := Lib.hid hb12.size
          clear hb12 a0 a1 a2
          obtain ⟨vb, hvb⟩ : ∃ vb, vb = (Value.slice (some ⟨g10, 0, none⟩) (6 + 2) cap10) := ⟨_, rfl⟩
          have hvo := Lib.hid (show ∀ b, (Value.slice (some ⟨g10, 0, none⟩) (6 + 2) cap10).ownBlock = some b → w5.heap.size ≤ b ∧ b < w12.heap.size from fun b hb => hbag12.out.lt b hb)
          have hq1 : w12.cell? ⟨bf, 2, none⟩ = some (.slice (some ⟨g10, 0, none⟩) (6 + 2) cap10) := by rw [cell_of hf12.out]; rfl
          obtain ⟨S2, hS2⟩ : ∃ S : World → Prop, S = fun W => W.cell? ⟨bf, 2, none⟩ = some (.slice (some ⟨g10, 0, none⟩) (6 + 2) cap10) := ⟨_, rfl⟩
          have hSi2 : ∀ W, S2 W ↔ W.cell? ⟨bf, 2, none⟩ = some (.slice (some ⟨g10, 0, none⟩) (6 + 2) cap10) := fun W => by rw [hS2]
          have hS02 : S2 w12.drew := (hSi2 _).2 hq1
          have s1' : ∀ X : InS S2, X.val.cell? ⟨bf, 2, none⟩ = some (.slice (some ⟨g10, 0, none⟩) (6 + 2) cap10) := fun X => (hSi2 X.val).1 X.mem
          have hne2 : Nonempty (InS S2) := ⟨⟨w12.drew, hS02⟩⟩
          have hS0H2 := Lib.hid hS02
          have hSiH2 := Lib.hid hSi2
          clear hvb s1 s2 s3 s4 s5 hne hS2 hSi2 hq1 hS02
          go_upto_region 19 with fail
          refine wp_region_reads S2 [0, 1, 2] [3, 4, 5, 6, 7, 8] (by kernel_rfl) (by kernel_rfl) hS0H2.out ?_
          simp only [pick, List.getD_cons_zero, List.getD_cons_succ]
          repeat (go_big_quiet_step (fail))
          refine wpQuiet_nil ?_
          rw [wpChain]
          go_wp2_with (go_at_call 22; with_reducible refine (Sha.Sum_any bb (by omega) _).mono ?_; rintro ev w13 ⟨rfl, hT13⟩)
          have hb13 := hT13.below (B := w12.drew.heap.size) (Nat.le_refl _) (fun k hk _ => hk.elim)
          have x1 := keepc hb13 ((hSiH2.out _).1 hS0H2.out)
          have hbr13 := Lib.hid (show Below w12.heap.size w12 w13 from ((Below.refl w12.heap.size w12).drew).trans hb13)
          clear hT13 hb13
          obtain ⟨sd, hsd⟩ : ∃ sd, sd = Sha.sha Sha.K Sha.H0 bb := ⟨_, rfl⟩
          rw [← hsd]
          have hsdH := Lib.hid (show dg (lst (lbody vs l p)).bytes = sd by rw [hdgH.out, hsd])
          clear hsd
          refine ⟨⟨⟨w13, (hSiH2.out _).2 x1⟩, rfl⟩, ?_⟩
          rw [wpChain]
          go_wp2_with (go_at_call 20; with_reducible refine (text_c _ _).mono ?_; rintro ev w14 ⟨rfl, hb14⟩)
          have x2 := keepc hb14 x1
          have hbr14 := Lib.hid (hbr13.out.trans (hb14.mono hbr13.out.size))
          have hbag14 := Lib.hid (hbag12.out.keep (w' := w14) (fun b h1 h2 => hbr14.out.block b h2) hbr14.out.size)
          clear hb14 x1
          unfold vtext
          refine ⟨⟨⟨w14, (hSiH2.out _).2 x2⟩, rfl⟩, ?_⟩
          rw [wpChain]
          go_wp2_with fail
          refine ⟨⟨⟨_, (hSiH2.out _).2 (cell_alloc x2 _)⟩, rfl⟩, ?_⟩
          rw [wpChain]
          have hlen8 := Lib.hid (show (lbody vs l p).length = 6 + 2 from by unfold lbody lnums; rw [List.length_append, List.length_map, hvs6H.out]; rfl)
          have hz12 : w5.heap.size ≤ w14.heap.size := by have := hbr14.out.size; have := hs12.out; have := heap_lt hf11.out; have := (hbag11.out.lt g10 rfl).2; have := (hbag11.out.lt g10 rfl).1; omega
          go_wp2_with (at_builtin; refine bag_app (by rfl) _ _ _ (by rfl) Tryz.underlying50 (by rfl) (6 + 2) 1 1 (by rfl) (by rfl) hbag14.out (FC.texts sd) hlen8.out (by rfl) (by omega) (by omega) hz12 ?_; intro g15 cap15 w15 hbag15 hgrew15)
          have hbf5' := hbf5.out
          have hnb2 : some bf ≠ (Value.slice (some ⟨g10, 0, none⟩) (6 + 2) cap10).ownBlock := fun e => by have := (hvo.out _ e.symm).1; omega
          have x3 := hgrew15.cell x2 hnb2
          have hf15 := hgrew15.heap ((hbr14.out.block _ (heap_lt hf12.out)).trans hf12.out) hnb2
          refine ⟨⟨⟨w15, (hSiH2.out _).2 x3⟩, rfl⟩, ?_⟩
          rw [wpChain]
          go_wp2_with fail
          refine ⟨⟨⟨w15, (hSiH2.out _).2 x3⟩, rfl⟩, ?_⟩
          rw [wpChain]
          have z15 : w15.frozen? ⟨bf, 2, none⟩ = false := fr_of hf15 2
          obtain ⟨w16, hw16⟩ : ∃ w16, w16 = w15.setCell ⟨bf, 2, none⟩ (.slice (some ⟨g15, 0, none⟩) (6 + 2 + 1) cap15) := ⟨_, rfl⟩
          have hf16 := Lib.hid (show w16.heap[bf]? = some (.cells #[.bool true, .string ⟨#[]⟩, .slice (some ⟨g15, 0, none⟩) (6 + 2 + 1) cap15] 52 (0, 0)) by rw [hw16]; exact heap_set _ _ _ _ _ _ _ hf15)
          have hbag16 := Lib.hid (show Bag w5.heap.size w16 (.slice (some ⟨g15, 0, none⟩) (6 + 2 + 1) cap15) (lfull vs l p) by
            rw [hw16, hfullH.out, hsdH.out]
            exact hbag15.keep (fun b h1 h2 => heap_set_ne _ _ _ _ (by show b ≠ bf; omega)) (by rw [size_set]; exact Nat.le_refl _))
          have hbr16 := Lib.hid (show Below w.heap.size w w16 by
            rw [hw16]
            exact (hgrew15.below (hbr12.out.trans (hbr14.out.mono hbr12.out.size)) (Nat.le_trans hbr12.out.size hbr14.out.size) (fun b hb => Nat.le_trans hb5H.out.size (hvo.out b hb).1)).setCell (by show w.heap.size ≤ bf; have := hgbf.out; rw [← hgsH.out]; omega) _)
          clear hf15 hbag15 hgrew15 hbf5' hz12 hnb2
          go_wp2_with fail
          refine stepPost_last ?_
          go_upto_region 20 with fail
          rw [← hw16]
          replace hw16 := Lib.hid hw16
          obtain ⟨a0, a1, a2, _, _⟩ := blk3 hf16.out
          obtain ⟨Af, cf, hfe, hfl, hfm, hfk⟩ := hbag16.out.form
          have hFV := FK.toFV (ok := fun b => w5.heap.size ≤ b ∧ b < w16.heap.size) (B := w16.heap.size) (fun b hb => hb.2) (lst (lfull vs l p)) [.bool true, .string ⟨#[]⟩, .slice (some ⟨g15, 0, none⟩) (6 + 2 + 1) cap15] (by
            unfold lst FK
            have hl9 : (lfull vs l p).length = 9 := by unfold lfull lbody lnums; rw [List.length_append, List.length_append, List.length_map, hvs6H.out]; rfl
            rw [hl9] at hfe hfl ⊢
            refine ⟨Af, cf, by rw [hfe], hfl, by omega, hfk⟩)
          have hbl := lfull_len hvs6H.out hrH.out
          have CW2 := write_any (lst (lfull vs l p)) _ _ _ w16 hFV (lfull_right _ _ _) (by rw [lst_depth, lfull_depths]; omega) (by omega) (htabH.out.keep hbr16.out hgBH.out) (Nat.lt_of_lt_of_le hgBH.out hbr16.out.size)
          have elb : lbytes vs l p = (lst (lfull vs l p)).bytes := rfl
          rw [← elb] at CW2
          have CW2H := Lib.hid CW2
          generalize hLB : lbytes vs l p = LB at CW2H
          replace hLB := Lib.hid hLB
          clear hfe hfl hfm hfk hFV hbl CW2 elb
          go_wp2_with fail
          refine (CW2H.out).mono ?_
          rintro ev w17 ⟨rfl, hb17⟩
          have hb17H := Lib.hid (hbr16.out.trans (hb17.mono hbr16.out.size))
          clear hb17
          go_wp2_with fail
          go_ret2
          exact ⟨by rw [hLB.out]; first | rfl | (rw [if_pos rfl]; rfl), hb17H.out⟩
theorem wwrite_c (v0 v1 v2 v3 v4 v5 : Int) (A : Option Addr) (c : Nat) (l : List ByteArray) (p : ByteArray) (w : World) (hC : Kd.C Kd.string w A l.length l) (hc : l.length ≤ c) (hn : l.length ≤ 1000000000000) (hs : ∀ x ∈ l, x.size ≤ 140737488351232) (htab : Tab w) (hgB : 1 < w.heap.size) :
    Calls Tryz.prog 7 #[.agg (letCells v0 v1 v2 v3 v4 v5 A l.length c p)] w (WrPost [v0, v1, v2, v3, v4, v5] l p w) := by
  cases hr : wright [v0, v1, v2, v3, v4, v5] l p with
  | true => exact wwrite_yes v0 v1 v2 v3 v4 v5 A c l p w hC hc hs hr htab hgB
  | false => exact wwrite_no v0 v1 v2 v3 v4 v5 A c l p w hC hc hn hs hr
end Go.Proofs.YtbefkoljcacpcaaGreatDoor.Wi
set_option linter.unusedVariables false
set_option linter.unusedSimpArgs false
namespace Go.Proofs.YtbefkoljcacpcaaGreatDoor.B
open Go Go.RowKit
section
variable {P : Program} {ops : Array Oper} {md : Region.Mode}
def pathB (md : Region.Mode) (ops : Array Oper) : Nat → Nat → Nat → Bool
  | 0, _, _ => false
  | f + 1, i, n => match ops[n]? with
    | some o => o.after.any fun e => Region.binds md e && (e.on == i || pathB md ops f i e.on)
    | none => false
structure Clo (md : Region.Mode) (ops : Array Oper) (listed : Array Bool) : Prop where
  size : listed.size = ops.size
  closed : ∀ j oj, ops[j]? = some oj → listed.getD j false = true → ∀ e ∈ oj.after, Region.binds md e = true → listed.getD e.on false = true
theorem Clo.set {i : Nat} {listed : Array Bool} (inv : Clo md ops listed) (hi : i ∈ Region.ready md ops listed) : Clo md ops (listed.setIfInBounds i true) := by
  obtain ⟨_, oi, hoi, hall⟩ := mem_ready.1 hi
  refine ⟨by simp [inv.size], fun j oj hj hl e he hb => ?_⟩
  by_cases hij : i = j
  · subst hij
    have : oj = oi := Option.some.inj (hj.symm.trans hoi)
    subst this
    exact getD_set_true (hall e he hb)
  · rw [getD_set_ne false hij] at hl
    exact getD_set_true (inv.closed j oj hj hl e he hb)
theorem path_listed {listed : Array Bool} (inv : Clo md ops listed) : ∀ (f i n : Nat), pathB md ops f i n = true → listed.getD n false = true → listed.getD i false = true
  | 0, _, _, h, _ => by simp [pathB] at h
  | f + 1, i, n, h, hn => by
    unfold pathB at h
    split at h
    · rename_i o ho
      obtain ⟨e, he, hb⟩ := Array.any_eq_true'.1 h
      simp only [Bool.and_eq_true, Bool.or_eq_true, beq_iff_eq] at hb
      have h1 := inv.closed n o ho hn e he hb.1
      rcases hb.2 with h2 | h2
      · rw [← h2]; exact h1
      · exact path_listed inv f i e.on h2 h1
    · cases h
theorem path_ready {listed : Array Bool} (inv : Clo md ops listed) {f i n : Nat} (h : pathB md ops f i n = true) (hn : n ∈ Region.ready md ops listed) : listed.getD i false = true := by
  cases f with
  | zero => simp [pathB] at h
  | succ f =>
    obtain ⟨_, o, ho, hall⟩ := mem_ready.1 hn
    unfold pathB at h
    rw [ho] at h
    obtain ⟨e, he, hb⟩ := Array.any_eq_true'.1 h
    simp only [Bool.and_eq_true, Bool.or_eq_true, beq_iff_eq] at hb
    have h1 := hall e he hb.1
    rcases hb.2 with h2 | h2
    · rw [← h2]; exact h1
    · exact path_listed inv f i e.on h2 h1
def askS (md : Region.Mode) (ops : Array Oper) (ms : List Nat) (j : Nat) : Bool := ms.any fun m => decide (m ≠ j) && !pathB md ops ops.size m j
def wpAnyM (P : Program) (md : Region.Mode) (ops : Array Oper) (S : World → Prop) (Q : Exit → Act → World → Prop) (ms : List Nat) : Nat → Array Bool → Act → World → Prop
  | 0, listed, a, w => Region.ready md ops listed = [] ∧ Q .normal a w
  | f + 1, listed, a, w => Region.ready md ops listed ≠ [] ∧ ∀ i ∈ Region.ready md ops listed, wpOp P ops (NoPanic Q) i (fun a' w' => (askS md ops ms i = true → S w → S w') ∧ wpAnyM P md ops S Q ms f (listed.setIfInBounds i true) a' w') a w
theorem wpAny_of_M {S : World → Prop} {Q : Exit → Act → World → Prop} {ms : List Nat} : ∀ (f : Nat) (listed : Array Bool) (a : Act) (w : World), wpAnyM P md ops S Q ms f listed a w → wpAny P md ops (NoPanic Q) f listed a w
  | 0, _, _, _, h => ⟨h.1, h.2⟩
  | f + 1, _, _, _, h => ⟨fun e => absurd e h.1, fun i hi => wpOp_mono (fun a' w' hh => wpAny_of_M f _ a' w' hh.2) (h.2 i hi)⟩
theorem wpAnyM_first {C S : World → Prop} {Q : Exit → Act → World → Prop} {ms : List Nat} {i : Nat} {oi : Oper} {v : Value} (hi : ops[i]? = some oi) (hsel : ∀ (j : Nat) (o : Oper) cs b, ops[j]? = some o → o.op ≠ .select cs b)
    (hC : (∀ w, C w) ∨ ((∀ w, C w → S w) ∧ (∀ w, S w → C w) ∧ ms.contains i = true)) :
    ∀ (f : Nat) (listed : Array Bool) (a : Act) (w : World), C w → Clo md ops listed →
      (∀ j oj, ops[j]? = some oj → j ≠ i → listed.getD j true = false → (∀ e ∈ oj.after, Region.binds md e = true → e.on ≠ i) → oi.apart ops oj = true) →
      i ∈ Region.ready md ops listed → YieldsR P ops C oi v a →
      wpAnyM P md ops S Q ms f (listed.setIfInBounds i true) (a.put oi.dst v) w → wpAnyM P md ops S Q ms (f + 1) listed a w := by
  intro f
  induction f with
  | zero =>
    intro listed a w hCw inv _ hr hy H
    refine ⟨fun h => (by rw [h] at hr; cases hr), fun j hj => ?_⟩
    by_cases hji : j = i
    · subst hji; exact hy.op hi hCw ⟨fun _ h => h, H⟩
    · have := ready_mono hj hji
      rw [H.1] at this
      cases this
  | succ f ih =>
    intro listed a w hCw inv hfree hr hy H
    have hun := (mem_ready.1 hr).1
    refine ⟨fun h => (by rw [h] at hr; cases hr), fun j hj => ?_⟩
    by_cases hji : j = i
    · subst hji; exact hy.op hi hCw ⟨fun _ h => h, H⟩
    · have h1 := H.2 j (ready_mono hj hji)
      obtain ⟨hjun, oj, hoj, hall⟩ := mem_ready.1 hj
      have hnot : ∀ e ∈ oj.after, Region.binds md e = true → e.on ≠ i := fun e he hb heq => by
        have h1 := hall e he hb
        rw [heq, getD_both hun] at h1
        cases h1
      have h2 := wpOp_putR hoj (hfree j oj hoj hji hjun hnot) (fun cs b => hsel i oi cs b hi) (fun cs b => hsel j oj cs b hoj) hy h1
      have hfree' : ∀ k ok, ops[k]? = some ok → k ≠ i → (listed.setIfInBounds j true).getD k true = false →
          (∀ e ∈ ok.after, Region.binds md e = true → e.on ≠ i) → oi.apart ops ok = true := fun k ok hk hki hun hno => by
        refine hfree k ok hk hki ?_ hno
        by_cases hjk : j = k
        · subst hjk; exact hjun
        · rw [getD_set_ne true hjk] at hun; exact hun
      have hask : (∀ w, C w) ∨ askS md ops ms j = true := by
        rcases hC with hC | ⟨_, _, hm⟩
        · exact .inl hC
        · right
          unfold askS
          rw [List.any_eq_true]
          refine ⟨i, by simpa using hm, ?_⟩
          rw [Bool.and_eq_true, decide_eq_true_eq, Bool.not_eq_true']
          refine ⟨fun e => hji e.symm, ?_⟩
          cases hp : pathB md ops ops.size i j with
          | false => rfl
          | true =>
            have := path_ready inv hp hj
            rw [getD_both hun] at this
            cases this
      refine wpOp_mono (fun a' w' h3 => ⟨h3.2.1, ih (listed.setIfInBounds j true) a' w' ?_ (inv.set hj) hfree' (ready_mono hr (Ne.symm hji)) h3.1 ?_⟩) h2
      · rcases hC with hC | ⟨h4, h5, _⟩
        · exact hC _
        · rcases hask with hC | hask
          · exact hC _
          · exact h5 _ (h3.2.1 hask (h4 _ hCw))
      · rw [Array.setIfInBounds_comm _ _ hji]
        exact h3.2.2
inductive Item where
  | mem (ks : List Nat)
  | pure (ks : List Nat)
  | keep (k : Nat)
  | last (k : Nat)
abbrev InC (S : World → Prop) : World → Prop := fun W => ∃ x : InS S, W = x.val
instance : Nonempty (InS fun _ => True) := ⟨⟨default, trivial⟩⟩
def wpMix (P : Program) (l : List Oper) (S : World → Prop) (Q : Exit → Act → World → Prop) : List Item → Act → World → Prop
  | [], a, w => Q .normal a w
  | .mem ks :: r, a, w => wpQuiet P l.toArray (InC S) (fun a' => wpMix P l S Q r a' w) (pick l ks) a
  | .pure ks :: r, a, w => wpQuiet P l.toArray (InC fun _ => True) (fun a' => wpMix P l S Q r a' w) (pick l ks) a
  | .keep k :: r, a, w => wpList P l.toArray (stepPost Q (fun a' w' => S w' ∧ wpMix P l S Q r a' w')) (pick l [k]) a w
  | .last k :: r, a, w => wpList P l.toArray (stepPost Q (fun a' w' => wpMix P l S Q r a' w')) (pick l [k]) a w
def hasMem : List Item → Bool
  | [] => false
  | .mem _ :: _ => true
  | _ :: r => hasMem r
def takeB (md : Region.Mode) (ops : Array Oper) (ok : Nat → Oper → Bool) (k : Array Bool → Bool) : List Nat → Array Bool → Bool
  | [], listed => k listed
  | i :: is, listed => (match ops[i]? with | some o => plainOp o.op && ok i o | none => false) && (Region.ready md ops listed).contains i && Region.free md ops listed i && takeB md ops ok k is (listed.setIfInBounds i true)
def mixB (md : Region.Mode) (ops : Array Oper) (ms : List Nat) : List Item → Array Bool → Bool
  | [], listed => (Region.ready md ops listed).isEmpty
  | .mem ks :: r, listed => takeB md ops (fun i _ => ms.contains i) (mixB md ops ms r) ks listed
  | .pure ks :: r, listed => takeB md ops (fun _ _ => true) (mixB md ops ms r) ks listed
  | .keep k :: r, listed => decide (Region.ready md ops listed = [k]) && mixB md ops ms r (listed.setIfInBounds k true)
  | .last k :: r, listed => decide (Region.ready md ops listed = [k]) && !askS md ops ms k && !hasMem r && mixB md ops ms r (listed.setIfInBounds k true)
def sizes : List Item → Nat
  | [] => 0
  | .mem ks :: r => ks.length + sizes r
  | .pure ks :: r => ks.length + sizes r
  | .keep _ :: r => sizes r + 1
  | .last _ :: r => sizes r + 1
def picksB (l : List Oper) : List Item → Bool
  | [] => true
  | .mem ks :: r => pickB l ks && picksB l r
  | .pure ks :: r => pickB l ks && picksB l r
  | .keep k :: r => pickB l [k] && picksB l r
  | .last k :: r => pickB l [k] && picksB l r
theorem take_sound {l : List Oper} {S C : World → Prop} {Q : Exit → Act → World → Prop} {ms : List Nat} (hsel : Region.noSelect l.toArray = true) (ok : Nat → Oper → Bool)
    (hC : ∀ i o, ok i o = true → (∀ w, C w) ∨ ((∀ w, C w → S w) ∧ (∀ w, S w → C w) ∧ ms.contains i = true)) {K : Act → Prop} {w : World} (hCw : C w) (kb : Array Bool → Bool) (m : Nat)
    (hK : ∀ listed a, Clo .any l.toArray listed → kb listed = true → K a → wpAnyM P .any l.toArray S Q ms m listed a w) :
    ∀ (ks : List Nat) (lr : List Oper) (listed : Array Bool) (a : Act), lr.map some = ks.map (fun k => l.toArray[k]?) → Clo .any l.toArray listed → takeB .any l.toArray ok kb ks listed = true → wpQuiet P l.toArray C K lr a →
    wpAnyM P .any l.toArray S Q ms (ks.length + m) listed a w
  | [], lr, listed, a, hl, inv, hB, h => by
    obtain rfl : lr = [] := by simpa using hl
    rw [List.length_nil, Nat.zero_add]
    exact hK listed a inv (by simpa [takeB] using hB) h
  | i :: ks, lr, listed, a, hl, inv, hB, h => by
    obtain ⟨o, lr, rfl⟩ : ∃ o l', lr = o :: l' := by
      cases lr with
      | nil => simp at hl
      | cons o l => exact ⟨o, l, rfl⟩
    simp only [List.map_cons, List.cons.injEq] at hl
    simp only [takeB, Bool.and_eq_true] at hB
    obtain ⟨⟨⟨hp, hr⟩, hf⟩, hB'⟩ := hB
    rw [← hl.1] at hp
    simp only [Bool.and_eq_true] at hp
    have hr' : i ∈ Region.ready .any l.toArray listed := by simpa using hr
    obtain ⟨v, hy, hk⟩ := yieldsR_of_quiet (ops := l.toArray) hp.1 h
    rw [List.length_cons, show ks.length + 1 + m = (ks.length + m) + 1 from by omega]
    exact wpAnyM_first hl.1.symm (Region.noSelect_spec hsel) (hC i o hp.2) _ listed a w hCw inv (Region.free_spec hl.1.symm hf) hr' hy
      (take_sound hsel ok hC hCw kb m hK ks lr _ _ hl.2 (inv.set hr') hB' hk)
theorem mix_sound {l : List Oper} {S : World → Prop} {Q : Exit → Act → World → Prop} {ms : List Nat} (hsel : Region.noSelect l.toArray = true) :
    ∀ (its : List Item) (listed : Array Bool) (a : Act) (w : World), (hasMem its = true → S w) → picksB l its = true → Clo .any l.toArray listed → mixB .any l.toArray ms its listed = true → wpMix P l S Q its a w →
    wpAnyM P .any l.toArray S Q ms (sizes its) listed a w
  | [], listed, a, w, _, _, inv, hB, h => ⟨by simpa [mixB] using hB, h⟩
  | .mem ks :: r, listed, a, w, hS, hp, inv, hB, h => by
    simp only [picksB, Bool.and_eq_true] at hp
    refine take_sound (C := InC S) hsel (fun i _ => ms.contains i) (fun i o hm => .inr ⟨fun w hw => ?_, fun w hw => ⟨⟨w, hw⟩, rfl⟩, hm⟩) ⟨⟨w, hS rfl⟩, rfl⟩ (mixB .any l.toArray ms r) (sizes r) (fun listed a inv hb hk => mix_sound hsel r listed a w (fun _ => hS rfl) hp.2 inv hb hk) ks (pick l ks) listed a (pick_map l ks hp.1) inv hB h
    obtain ⟨x, rfl⟩ := hw
    exact x.mem
  | .pure ks :: r, listed, a, w, hS, hp, inv, hB, h => by
    simp only [picksB, Bool.and_eq_true] at hp
    exact take_sound (C := InC fun _ => True) hsel (fun _ _ => true) (fun i o _ => .inl fun w => ⟨⟨w, trivial⟩, rfl⟩) ⟨⟨w, trivial⟩, rfl⟩ (mixB .any l.toArray ms r) (sizes r) (fun listed a inv hb hk => mix_sound hsel r listed a w hS hp.2 inv hb hk) ks (pick l ks) listed a (pick_map l ks hp.1) inv hB h
  | .keep k :: r, listed, a, w, hS, hp, inv, hB, h => by
    simp only [picksB, Bool.and_eq_true] at hp
    simp only [mixB, Bool.and_eq_true, decide_eq_true_eq] at hB
    have hm := pick_map l [k] hp.1
    refine ⟨by rw [hB.1]; simp, fun i hi => ?_⟩
    rw [hB.1] at hi
    obtain rfl : i = k := by simpa using hi
    have hr' : i ∈ Region.ready .any l.toArray listed := by rw [hB.1]; simp
    simp only [pick, List.map_cons, List.map_nil, List.cons.injEq, and_true] at hm
    exact wpOp_mono (fun a' w' hh => ⟨fun _ _ => hh.1, mix_sound hsel r _ a' w' (fun _ => hh.1) hp.2 (inv.set hr') hB.2 hh.2⟩) (wpOp_of_list hm.symm h)
  | .last k :: r, listed, a, w, hS, hp, inv, hB, h => by
    simp only [picksB, Bool.and_eq_true] at hp
    simp only [mixB, Bool.and_eq_true, decide_eq_true_eq, Bool.not_eq_true'] at hB
    have hm := pick_map l [k] hp.1
    refine ⟨by rw [hB.1.1.1]; simp, fun i hi => ?_⟩
    rw [hB.1.1.1] at hi
    obtain rfl : i = k := by simpa using hi
    have hr' : i ∈ Region.ready .any l.toArray listed := by rw [hB.1.1.1]; simp
    simp only [pick, List.map_cons, List.map_nil, List.cons.injEq, and_true] at hm
    exact wpOp_mono (fun a' w' hh => ⟨fun e => by (rw [hB.1.1.2] at e; cases e), mix_sound hsel r _ a' w' (fun e => by (rw [hB.1.2] at e; cases e)) hp.2 (inv.set hr') hB.2 hh⟩) (wpOp_of_list hm.symm h)
def allB (l : List Oper) (ms : List Nat) (its : List Item) : Bool :=
  Region.noSelect l.toArray && decide (sizes its = l.toArray.size) && picksB l its && mixB .any l.toArray ms its (Array.replicate l.toArray.size false)
theorem wp_region_mix {id : Nat} {Q : Exit → Act → World → Prop} {a : Act} {w : World} {l : List Oper} (S : World → Prop) (ms : List Nat) (its : List Item)
    (hm : P.follows .mixedOrders = true) (hB : allB l ms its = true) (hS : S w.drew) (h : wpMix P l S Q its a w.drew) : (Code.region id l.toArray true).wp P Q a w := by
  simp only [allB, Bool.and_eq_true, decide_eq_true_eq] at hB
  obtain ⟨⟨⟨hsel, hlen⟩, hp⟩, hb⟩ := hB
  have inv0 : Clo .any l.toArray (Array.replicate l.toArray.size false) := ⟨by simp, fun j oj _ hl => (by rw [getD_replicate_false] at hl; cases hl)⟩
  have H := mix_sound (P := P) (Q := Q) hsel its _ a w.drew (fun _ => hS) hp inv0 hb h
  rw [hlen] at H
  refine wp_region_noPanic ?_
  exact wp_region_any hm (wpAny_of_M _ _ _ _ H)
end
end Go.Proofs.YtbefkoljcacpcaaGreatDoor.B
