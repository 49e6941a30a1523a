/- Numbers of base 2^16, the lowest first: the plain law. -/
set_option linter.unusedVariables false
namespace Go.Proofs.YtpecclcihefbaaaDoor.Ref

def val : List Nat → Nat
  | [] => 0
  | x :: l => x + 65536 * val l

theorem val_append : ∀ a b : List Nat, val (a ++ b) = val a + 65536 ^ a.length * val b
  | [], b => by simp [val]
  | x :: a, b => by
    rw [List.cons_append, val, val, val_append a b, List.length_cons, Nat.pow_succ, Nat.mul_add, Nat.add_assoc]
    congr 2
    rw [← Nat.mul_assoc, Nat.mul_comm 65536]
theorem val_set : ∀ (l : List Nat) (k y : Nat), k < l.length → val (l.set k y) + l.getD k 0 * 65536 ^ k = val l + y * 65536 ^ k
  | [], k, y, h => absurd h (by simp)
  | x :: l, 0, y, _ => by simp [val]; omega
  | x :: l, k + 1, y, h => by
    have ih := val_set l k y (by simpa using h)
    simp only [List.set_cons_succ, val, List.getD_cons_succ, Nat.pow_succ]
    have e1 : l.getD k 0 * (65536 ^ k * 65536) = 65536 * (l.getD k 0 * 65536 ^ k) := by rw [← Nat.mul_assoc, Nat.mul_comm]
    have e2 : y * (65536 ^ k * 65536) = 65536 * (y * 65536 ^ k) := by rw [← Nat.mul_assoc, Nat.mul_comm]
    rw [e1, e2]
    omega
theorem val_zeros : ∀ n, val (List.replicate n 0) = 0
  | 0 => rfl
  | n + 1 => by rw [List.replicate_succ, val, val_zeros n]
theorem val_take_succ (l : List Nat) (k : Nat) (h : k < l.length) : val (l.take (k + 1)) = val (l.take k) + l.getD k 0 * 65536 ^ k := by
  rw [List.take_add_one, val_append, List.getD_eq_getElem?_getD, List.getElem?_eq_getElem h, List.length_take, Nat.min_eq_left (by omega)]
  simp [val, Nat.mul_comm]
theorem val_lt : ∀ l : List Nat, (∀ x ∈ l, x < 65536) → val l < 65536 ^ l.length
  | [], _ => by simp [val]
  | x :: l, h => by
    have := val_lt l (fun y hy => h y (List.mem_cons_of_mem _ hy))
    have hx := h x (List.mem_cons_self)
    rw [val, List.length_cons, Nat.pow_succ]
    omega
theorem val_split (l : List Nat) (k : Nat) (h : k ≤ l.length) : val l = val (l.take k) + 65536 ^ k * val (l.drop k) := by
  have := val_append (l.take k) (l.drop k)
  rwa [List.take_append_drop, List.length_take, Nat.min_eq_left h] at this
theorem getD_set (l : List Nat) (i j y : Nat) (h : i < l.length) : (l.set i y).getD j 0 = if i = j then y else l.getD j 0 := by
  simp only [List.getD_eq_getElem?_getD, List.getElem?_set]
  by_cases e : i = j
  · subst e; simp [h]
  · simp [e]

/-- times: row i, j limbs of it done, c to be carried. -/
structure Tim (a b : List Nat) (i j c : Nat) (o : List Nat) : Prop where
  len : o.length = a.length + b.length
  small : ∀ k, o.getD k 0 < 65536
  zero : ∀ k, i + b.length ≤ k → o.getD k 0 = 0
  carry : c < 65536
  eq : val o + c * 65536 ^ (i + j) = val (a.take i) * val b + a.getD i 0 * 65536 ^ i * val (b.take j)

variable {a b : List Nat} {i j c : Nat} {o : List Nat}
theorem Tim.start (a b : List Nat) : Tim a b 0 0 0 (List.replicate (a.length + b.length) 0) := by
  have hz : ∀ k, (List.replicate (a.length + b.length) 0).getD k 0 = 0 := fun k => by
    rw [List.getD_eq_getElem?_getD, List.getElem?_replicate]; split <;> rfl
  exact ⟨by simp, fun k => by rw [hz]; omega, fun k _ => hz k, by omega, by simp [val_zeros, val]⟩
theorem Tim.step (h : Tim a b i j c o) (hi : i < a.length) (hj : j < b.length) (ha : a.getD i 0 < 65536) (hb : b.getD j 0 < 65536) :
    Tim a b i (j + 1) ((o.getD (i + j) 0 + a.getD i 0 * b.getD j 0 + c) / 65536) (o.set (i + j) ((o.getD (i + j) 0 + a.getD i 0 * b.getD j 0 + c) % 65536)) := by
  have hl := h.len
  have hx := h.small (i + j)
  have hc := h.carry
  have hm : a.getD i 0 * b.getD j 0 ≤ 65535 * 65535 := Nat.mul_le_mul (by omega) (by omega)
  have hs := val_set o (i + j) ((o.getD (i + j) 0 + a.getD i 0 * b.getD j 0 + c) % 65536) (by omega)
  have he := h.eq
  refine ⟨by simp [hl], fun k => ?_, fun k hk => ?_, ?_, ?_⟩
  · rw [getD_set _ _ _ _ (by omega)]; split
    · omega
    · exact h.small k
  · rw [getD_set _ _ _ _ (by omega), if_neg (by omega)]; exact h.zero k hk
  · omega
  · rw [val_take_succ b j hj, Nat.mul_add]
    have e3 : a.getD i 0 * 65536 ^ i * (b.getD j 0 * 65536 ^ j) = a.getD i 0 * b.getD j 0 * 65536 ^ (i + j) := by
      rw [Nat.pow_add, Nat.mul_mul_mul_comm]
    have e4 : ((o.getD (i + j) 0 + a.getD i 0 * b.getD j 0 + c) / 65536) * 65536 ^ (i + (j + 1)) = (o.getD (i + j) 0 + a.getD i 0 * b.getD j 0 + c) / 65536 * 65536 * 65536 ^ (i + j) := by
      rw [show i + (j + 1) = (i + j) + 1 from by omega, Nat.pow_succ, Nat.mul_assoc, Nat.mul_comm (65536 ^ (i + j))]
    rw [e3, e4]
    have e5 : (o.getD (i + j) 0 + a.getD i 0 * b.getD j 0 + c) / 65536 * 65536 * 65536 ^ (i + j) + (o.getD (i + j) 0 + a.getD i 0 * b.getD j 0 + c) % 65536 * 65536 ^ (i + j) = o.getD (i + j) 0 * 65536 ^ (i + j) + a.getD i 0 * b.getD j 0 * 65536 ^ (i + j) + c * 65536 ^ (i + j) := by
      rw [← Nat.add_mul, ← Nat.add_mul, ← Nat.add_mul]; congr 1; omega
    omega
theorem Tim.row (h : Tim a b i b.length c o) (hi : i < a.length) : Tim a b (i + 1) 0 0 (o.set (i + b.length) (o.getD (i + b.length) 0 + c)) := by
  have hl := h.len
  have hz := h.zero (i + b.length) (Nat.le_refl _)
  have hs := val_set o (i + b.length) (o.getD (i + b.length) 0 + c) (by omega)
  have hc := h.carry
  have he := h.eq
  rw [hz] at hs ⊢
  refine ⟨by simp [hl], fun k => ?_, fun k hk => ?_, by omega, ?_⟩
  · rw [getD_set _ _ _ _ (by omega)]; split
    · omega
    · exact h.small k
  · rw [getD_set _ _ _ _ (by omega), if_neg (by omega)]; exact h.zero k (by omega)
  · rw [List.take_of_length_le (Nat.le_refl _)] at he
    rw [val_take_succ a i hi, Nat.add_mul]
    simp only [List.take_zero, val, Nat.mul_zero, Nat.add_zero, Nat.zero_mul] at hs ⊢
    simp only [Nat.zero_add] at hs ⊢
    omega
theorem Tim.done (h : Tim a b a.length 0 c o) (hc : c = 0) : val o = val a * val b := by
  have he := h.eq
  subst hc
  simpa [val] using he

end Go.Proofs.YtpecclcihefbaaaDoor.Ref
