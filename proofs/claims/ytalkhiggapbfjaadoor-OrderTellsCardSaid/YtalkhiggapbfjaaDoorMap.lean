/- Maps that the call makes, whatever their elements: one word, and the laws at the operations. -/
import Derived.Maps.RangeWalk
import Derived.Maps.OwnSet
set_option linter.unusedVariables false
set_option linter.unusedSimpArgs false
namespace Go.Proofs.YtalkhiggapbfjaaDoor.Mp
open Go Go.Maps
/-- An element is held as it is. -/
def hE (v : Value) : Option (DataW Value × List MemPlace) := some (.held v, [])
/-- How keys are written: injective, and all keys are of the kind. -/
structure KeyBy (P : Program) (k : TypeId) (κ : Type) (lit : κ → Lit) (val : κ → Value) : Prop where
  K : Keyed P k
  inj : ∀ x y, lit x = lit y → x = y
  inv : ∀ key kl, keyOf P k key = some kl → ∃ x, key = val x ∧ kl = lit x
def slit (s : ByteArray) : Lit := .string s.data.toList
theorem slit_inj (x y : ByteArray) (h : slit x = slit y) : x = y := by
  unfold slit at h
  exact ByteArray.ext (Array.ext' (by simpa using h))
theorem keyStr {P : Program} {k : TypeId} (hk : P.underlying k = some .string) : KeyBy P k ByteArray slit Value.string where
  K := string_keyed hk
  inj := slit_inj
  inv := fun key kl h => by
    rw [keyOf_string hk] at h
    cases key <;> simp [mapKey, hk] at h
    obtain ⟨_, rfl⟩ := h
    exact ⟨_, rfl, rfl⟩
theorem keyStr_mk {P : Program} {k : TypeId} (hk : P.underlying k = some .string) {s : ByteArray} (hs : s.size ≤ maxLen) : keyOf P k (.string s) = some (slit s) := WideMaps.keyOf_string_mk hk hs
def ilit (n : Int) : Lit := .int .i64 n
theorem keyInt {P : Program} {k : TypeId} (hk : P.underlying k = some (.int .i64)) : KeyBy P k Int ilit (Value.int .i64) where
  K := int_keyed hk
  inj := fun x y h => by unfold ilit at h; simpa using h
  inv := fun key kl h => by obtain ⟨x, h1, h2, _⟩ := keyOf_int_inv hk h; exact ⟨x, h1, h2⟩
/-- D has at each key what f says. -/
def View {κ : Type} (lit : κ → Lit) (D : DataW Value) (f : κ → Option Value) : Prop := ∀ x, has D (lit x) = (f x).isSome ∧ ∀ v, f x = some v → ∀ z, D.atKey (lit x) z = .held v
/-- Block b is a map that has at each key what f says. -/
def GMap {κ : Type} (lit : κ → Lit) (w : World) (P : Program) (k : TypeId) (b n : Nat) (f : κ → Option Value) : Prop := ∃ D, w.ownsMap P k hE b n D ∧ View lit D f
def upd {κ : Type} [DecidableEq κ] (f : κ → Option Value) (x : κ) (v : Value) : κ → Option Value := fun y => if y = x then some v else f y
def era {κ : Type} [DecidableEq κ] (f : κ → Option Value) (x : κ) : κ → Option Value := fun y => if y = x then none else f y
variable {κ : Type} {lit : κ → Lit} {val : κ → Value} {w : World} {P : Program} {k : TypeId} {b n : Nat} {f : κ → Option Value}
theorem GMap.made (lit : κ → Lit) (w : World) (P : Program) (k : TypeId) : GMap lit (w.alloc (.map #[] 0)) P k w.heap.size 0 (fun _ => none) :=
  ⟨.map [], World.ownsMap_made _ _ _ _, fun x => ⟨rfl, fun v h => by cases h⟩⟩
theorem GMap.lt (h : GMap lit w P k b n f) : b < w.heap.size := by obtain ⟨D, h, _⟩ := h; exact h.lt
theorem GMap.mono (h : GMap lit w P k b n f) {n' : Nat} (hn : n ≤ n') : GMap lit w P k b n' f := by obtain ⟨D, h, hv⟩ := h; exact ⟨D, h.mono hn, hv⟩
theorem GMap.same {w' : World} (h : GMap lit w P k b n f) (hb : w'.heap[b]? = w.heap[b]?) : GMap lit w' P k b n f := by
  obtain ⟨D, ⟨es, clock, h1, h2⟩, hv⟩ := h
  exact ⟨D, ⟨es, clock, hb.trans h1, h2⟩, hv⟩
theorem GMap.obj (h : GMap lit w P k b n f) : ∃ es clock, w.heap[b]? = some (.map es clock) := by obtain ⟨D, ⟨es, clock, h1, _⟩, _⟩ := h; exact ⟨es, clock, h1⟩
theorem View.put [DecidableEq κ] {D : DataW Value} (hD : IsMap D) (hi : ∀ x y, lit x = lit y → x = y) (h : View lit D f) {x : κ} (hk : WideAt.IsKeyLit (lit x)) (v : Value) : View lit (D.put (lit x) (.held v)) (upd f x v) := by
  intro y
  unfold upd
  by_cases e : y = x
  · subst e
    rw [if_pos rfl]
    exact ⟨has_put_same hD hk _, fun u hu z => by cases hu; exact atKey_put_same hD hk _ _⟩
  · rw [if_neg e]
    have hne : lit y ≠ lit x := fun h => e (hi _ _ h)
    exact ⟨(has_put_other hne _).trans (h y).1, fun u hu z => (atKey_put_other hne _ _).trans ((h y).2 u hu z)⟩
theorem View.del [DecidableEq κ] {D : DataW Value} (hi : ∀ x y, lit x = lit y → x = y) (h : View lit D f) (x : κ) : View lit (D.del (lit x)) (era f x) := by
  intro y
  unfold era
  by_cases e : y = x
  · subst e
    rw [if_pos rfl]
    exact ⟨has_del_same, fun u hu => by cases hu⟩
  · rw [if_neg e]
    have hne : lit y ≠ lit x := fun h => e (hi _ _ h)
    exact ⟨(has_del_other hne).trans (h y).1, fun u hu z => (atKey_del_other hne _).trans ((h y).2 u hu z)⟩
theorem held_at {D : DataW Value} (h : View lit D f) {x : κ} {z v : Value} {ps : List MemPlace} (hv : hE v = some (D.atKey (lit x) (.held z), ps)) : v = (f x).getD z := by
  unfold hE at hv
  simp only [Option.some.injEq, Prod.mk.injEq] at hv
  cases hf : f x with
  | none =>
    have h1 := (h x).1
    rw [hf] at h1
    rw [atKey_of_not_has h1] at hv
    exact (DataW.held.inj hv.1)
  | some u =>
    rw [(h x).2 u hf] at hv
    exact (DataW.held.inj hv.1)
variable {ops : Array Oper} {rest : List Oper} {o : Oper} {a : Act} {Q : Exit → Act → World → Prop}
/-- 'm[x]'. -/
theorem wpList_lookup_g (B : KeyBy P k κ lit val) (hg : o.guard = none) (m x : Operand) (t : TypeId) (hop : o.op = Op.lookup t m x false) (e : TypeId) (ht : P.underlying t = some (.map k e)) {z : Value} (hz : (zeroValue e).run P w = .ok z w)
    (hm : a.eval m = .map (some b)) (h : GMap lit w P k b n f) (y : κ) (hx : a.eval x = val y) (hkey : keyOf P k (val y) = some (lit y))
    (hK : wpList P ops Q rest (a.put o.dst ((f y).getD z)) w) : wpList P ops Q (o :: rest) a w := by
  refine wpList_plain hg fun K' hK' => ?_
  obtain ⟨D, hown, hv⟩ := h
  obtain ⟨v, ps, hrun, hR⟩ := hown.lookup B.K ht hz (zd := .held z) (zp := []) rfl hkey
  unfold Oper.wp
  simp [execOp, hop, hm, hx, hrun, Result.andThen]
  rw [held_at hv hR]
  exact hK' _ _ hK
/-- 'v, ok := m[x]'. -/
theorem wpList_lookup_ok_g (B : KeyBy P k κ lit val) (hg : o.guard = none) (m x : Operand) (t : TypeId) (hop : o.op = Op.lookup t m x true) (e : TypeId) (ht : P.underlying t = some (.map k e)) {z : Value} (hz : (zeroValue e).run P w = .ok z w)
    (hm : a.eval m = .map (some b)) (h : GMap lit w P k b n f) (y : κ) (hx : a.eval x = val y) (hkey : keyOf P k (val y) = some (lit y))
    (hK : wpList P ops Q rest (a.put o.dst (.tuple #[(f y).getD z, .bool (f y).isSome])) w) : wpList P ops Q (o :: rest) a w := by
  refine wpList_plain hg fun K' hK' => ?_
  obtain ⟨D, hown, hv⟩ := h
  obtain ⟨v, ps, hrun, hR⟩ := hown.look_ok B.K ht hz (zd := .held z) (zp := []) rfl hkey
  unfold Oper.wp
  simp [execOp, hop, hm, hx, hrun, Result.andThen]
  rw [held_at hv hR, (hv y).1]
  exact hK' _ _ hK
/-- 'm[x] = v'. -/
theorem wpList_update_g [DecidableEq κ] (B : KeyBy P k κ lit val) (hg : o.guard = none) (m x v : Operand) (t : TypeId) (hop : o.op = Op.mapUpdate t m x v) (e : TypeId) (ht : P.underlying t = some (.map k e))
    (hm : a.eval m = .map (some b)) (h : GMap lit w P k b n f) (hn : n < maxLen) (y : κ) (u : Value) (hx : a.eval x = val y) (hu : a.eval v = u) (hkey : keyOf P k (val y) = some (lit y))
    (hK : ∀ w', GMap lit w' P k b (n + 1) (upd f y u) → w.mapTurned w' b → wpList P ops Q rest (a.put o.dst undef) w') : wpList P ops Q (o :: rest) a w := by
  refine wpList_plain hg fun K' hK' => ?_
  obtain ⟨D, hown, hv⟩ := h
  obtain ⟨w', hrun, r1, r2⟩ := hown.store B.K ht hn hkey (val := u) (d := .held u) (ps := []) rfl
  unfold Oper.wp
  simp [execOp, hop, hm, hx, hu, hrun, Result.andThen]
  exact hK' _ _ (hK w' ⟨_, r1, hv.put hown.isMap B.inj (B.K.key hkey) u⟩ r2)
/-- 'delete(m, x)'. -/
theorem wpList_delete_g [DecidableEq κ] (B : KeyBy P k κ lit val) (hg : o.guard = none) (m x : Operand) (t : TypeId) (hop : o.op = Op.call { callee := Callee.builtin Builtin.delete, args := #[m, x], argTypes := #[t, k] }) (e : TypeId) (ht : P.underlying t = some (.map k e))
    (hm : a.eval m = .map (some b)) (h : GMap lit w P k b n f) (y : κ) (hx : a.eval x = val y) (hkey : keyOf P k (val y) = some (lit y))
    (hK : ∀ w', GMap lit w' P k b n (era f y) → w.mapTurned w' b → wpList P ops Q rest (a.put o.dst (.tuple #[])) w') : wpList P ops Q (o :: rest) a w := by
  obtain ⟨D, hown, hv⟩ := h
  exact wpList_delete_own w hg m x t k hop e B.K ht hE b n D hm hown (val y) (lit y) hx hkey fun w' r1 r2 => hK w' ⟨_, r1, hv.del B.inj y⟩ r2
/-! ### ranging -/
/-- The range over block b with the iterator r: 'left' are still to come. -/
def GRange (lit : κ → Lit) (w : World) (P : Program) (k : TypeId) (b r n : Nat) (f : κ → Option Value) (left : κ → Bool) (cnt : Nat) : Prop :=
  ∃ D L, w.ranges P k hE b r n D L cnt ∧ View lit D f ∧ ∀ x, L (lit x) = left x
theorem GRange.map {r cnt : Nat} {left : κ → Bool} (h : GRange lit w P k b r n f left cnt) : GMap lit w P k b n f := by obtain ⟨D, L, h, hv, _⟩ := h; exact ⟨D, h.owns, hv⟩
theorem GRange.left_eq {r cnt : Nat} {left : κ → Bool} (h : GRange lit w P k b r n f left cnt) : w.rangeLeft b r = cnt := by obtain ⟨D, L, h, hv, _⟩ := h; exact h.left_eq
theorem GRange.lt {r cnt : Nat} {left : κ → Bool} (h : GRange lit w P k b r n f left cnt) : r < w.heap.size := by obtain ⟨D, L, h, hv, _⟩ := h; exact h.lt
theorem GRange.ne {r cnt : Nat} {left : κ → Bool} (h : GRange lit w P k b r n f left cnt) : r ≠ b := by obtain ⟨D, L, h, hv, _⟩ := h; exact h.ne
theorem GRange.iter {r cnt : Nat} {left : κ → Bool} (h : GRange lit w P k b r n f left cnt) : ∃ m s seen c, w.heap[r]? = some (.mapIter m s seen c) := by
  obtain ⟨D, L, ⟨_, _, _, _, _, _, _, _, _, hr, _⟩, _⟩ := h
  exact ⟨_, _, _, _, hr⟩
theorem GRange.same {w' : World} {r cnt : Nat} {left : κ → Bool} (h : GRange lit w P k b r n f left cnt) (hb : w'.heap[b]? = w.heap[b]?) (hr : w'.heap[r]? = w.heap[r]?) : GRange lit w' P k b r n f left cnt := by
  obtain ⟨D, L, ⟨es, clock, since, seen, c0, h1, h2, h3, h4, h5, h6⟩, hv⟩ := h
  exact ⟨D, L, ⟨es, clock, since, seen, c0, hb.trans h1, h2, h3, h4, hr.trans h5, h6⟩, hv⟩
/-- 'range m'. -/
theorem wpList_range_g (B : KeyBy P k κ lit val) (hg : o.guard = none) (m : Operand) (t : TypeId) (hop : o.op = Op.range t m) (e : TypeId) (ht : P.underlying t = some (.map k e)) (hm : a.eval m = .map (some b)) (h : GMap lit w P k b n f)
    (hK : ∀ w' cnt, GRange lit w' P k b w.heap.size n f (fun x => (f x).isSome) cnt → w.grownBy w' none → w'.heap.size = w.heap.size + 1 → wpList P ops Q rest (a.put o.dst (.pointer (some ⟨w.heap.size, 0, none⟩))) w') : wpList P ops Q (o :: rest) a w := by
  obtain ⟨D, hown, hv⟩ := h
  exact wpList_range_own w hg m t hop k e B.K ht hE b n D hm hown fun w' r1 r2 r3 => hK w' _ ⟨D, _, r1, hv, fun x => (hv x).1⟩ r2 r3
/-- The step. -/
theorem wpList_next_g [DecidableEq κ] (B : KeyBy P k κ lit val) (hg : o.guard = none) (it : Operand) (hop : o.op = Op.next it false) (r cnt : Nat) (left : κ → Bool) (hit : a.eval it = .pointer (some ⟨r, 0, none⟩)) (h : GRange lit w P k b r n f left cnt)
    (hDone : cnt = 0 → (∀ x, left x = false) → wpList P ops Q rest (a.put o.dst (.tuple #[.bool false])) w)
    (hMore : ∀ (x : κ) (v : Value) (w' : World) (cnt' : Nat), keyOf P k (val x) = some (lit x) → left x = true → f x = some v → GRange lit w' P k b r n f (fun z => left z && !decide (z = x)) cnt' → cnt' < cnt → w.grownBy w' (some r) → w'.heap.size = w.heap.size →
      (Instr.entry (.pointer (some ⟨r, 0, none⟩))).run P w' = .ok (.tuple #[val x, v]) w' → wpList P ops Q rest (a.put o.dst (.tuple #[.bool true, val x, v])) w') : wpList P ops Q (o :: rest) a w := by
  obtain ⟨D, L, hr, hv, hL⟩ := h
  refine wpList_next_ranges (α := κ) (β := Value) w hg it hop k B.K hE val id (fun key kl hk => by obtain ⟨x, h1, _⟩ := B.inv key kl hk; exact ⟨x, h1⟩) (fun v y _ => ⟨v, rfl⟩) b r n D L cnt hit hr (fun h0 hl => hDone h0 fun x => (hL x).symm.trans (hl _)) ?_
  intro x c kl y w' cnt' hkey hlk hy hat hrg hlt hgr hsz hen
  obtain ⟨x', e1, rfl⟩ := B.inv _ _ hkey
  have hxx : lit x' = lit x' := rfl
  have hval : val x' = val x := e1.symm
  rw [← hval] at hkey
  have hleft : left x' = true := (hL x').symm.trans hlk
  have hc : f x' = some c := by
    unfold hE at hy
    simp only [id, Option.some.injEq] at hy
    subst hy
    cases hf : f x' with
    | none =>
      have h1 := (hv x').1
      rw [hf] at h1
      have h3 := hat .nil
      rw [atKey_of_not_has h1] at h3
      cases h3
    | some u =>
      have h2 := (hv x').2 u hf .nil
      rw [hat .nil] at h2
      rw [DataW.held.inj h2]
  have hstrike : ∀ z, (L (lit z) && !(lit z).sameKey (lit x')) = (left z && !decide (z = x')) := by
    intro z
    rw [hL z]
    by_cases e : z = x'
    · subst e
      rw [WideAt.sameKey_self (B.K.key hkey)]
      simp
    · have : (lit z).sameKey (lit x') = false := by
        cases hs : (lit z).sameKey (lit x')
        · rfl
        · exact absurd (B.inj _ _ (WideAt.sameKey_eq hs)) e
      rw [this]
      simp [e]
  have := hMore x' c w' cnt' hkey hleft hc ⟨D, _, hrg, hv, hstrike⟩ hlt hgr hsz (by rw [hval]; exact hen)
  rw [hval] at this
  exact this
/-- The step, each element known as a function of its key. -/
theorem wpList_next_gv [DecidableEq κ] (B : KeyBy P k κ lit val) (hg : o.guard = none) (it : Operand) (hop : o.op = Op.next it false) (r cnt : Nat) (left : κ → Bool) (hit : a.eval it = .pointer (some ⟨r, 0, none⟩)) (h : GRange lit w P k b r n f left cnt) (g : κ → Value) (hfg : ∀ x v, f x = some v → v = g x)
    (hDone : cnt = 0 → (∀ x, left x = false) → wpList P ops Q rest (a.put o.dst (.tuple #[.bool false])) w)
    (hMore : ∀ (x : κ) (w' : World) (cnt' : Nat), keyOf P k (val x) = some (lit x) → left x = true → f x = some (g x) → GRange lit w' P k b r n f (fun z => left z && !decide (z = x)) cnt' → cnt' < cnt → w.grownBy w' (some r) → w'.heap.size = w.heap.size →
      (Instr.entry (.pointer (some ⟨r, 0, none⟩))).run P w' = .ok (.tuple #[val x, g x]) w' → wpList P ops Q rest (a.put o.dst (.tuple #[.bool true, val x, g x])) w') : wpList P ops Q (o :: rest) a w :=
  wpList_next_g B hg it hop r cnt left hit h hDone fun x v w' cnt' h1 h2 h3 h4 h5 h6 h7 h8 => by
    have := hfg x v h3
    subst this
    exact hMore x w' cnt' h1 h2 h3 h4 h5 h6 h7 h8
end Go.Proofs.YtalkhiggapbfjaaDoor.Mp
