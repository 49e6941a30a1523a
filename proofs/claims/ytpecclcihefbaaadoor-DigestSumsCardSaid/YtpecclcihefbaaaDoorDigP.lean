/- Digits of base 16: bytes read out of digits, in plain Lean; what the document's Hex, Raw and Right (printed functions) answer. -/
import Derived.Test.YtpecclcihefbaaaDoorShaH
import Derived.Test.YtpecclcihefbaaaDoorLinB
import Derived.Test.YtpecclcihefbaaaDoorPRightx1
import Derived.Lib.SlTrimSet
set_option linter.unusedVariables false
set_option linter.unusedSimpArgs false
namespace Go.Proofs.YtpecclcihefbaaaDoor.Dig
open Go Go.RowKit Go.Proofs.YtpecclcihefbaaaDoorW.PrintWords Go.Proofs.YtpecclcihefbaaaDoor.Sha
open Go.Proofs.YtpecclcihefbaaaDoor.Lin (bs bs_data bs_of bs_size size_list wrap_at)

/-- A digit's number. -/
def dv (c : UInt8) : Option Nat := if 48 ≤ c.toNat ∧ c.toNat ≤ 57 then some (c.toNat - 48) else if 97 ≤ c.toNat ∧ c.toNat ≤ 102 then some (c.toNat - 87) else none
theorem dv_lt {c : UInt8} {n : Nat} (h : dv c = some n) : n < 16 := by
  unfold dv at h
  split at h
  · injection h with h; omega
  · split at h
    · injection h with h; omega
    · cases h
/-- Two digits' byte. -/
def pair (a b : UInt8) : Option UInt8 := match dv a, dv b with
  | some x, some y => some (UInt8.ofNat (16 * x + y))
  | _, _ => none
/-- The bytes. -/
def rawL : List UInt8 → Option (List UInt8)
  | [] => some []
  | [_] => none
  | a :: b :: l => match pair a b, rawL l with
    | some c, some r => some (c :: r)
    | _, _ => none
theorem rawL_len : ∀ (l : List UInt8) (r : List UInt8), rawL l = some r → l.length = 2 * r.length
  | [], r, h => by cases h; rfl
  | [_], r, h => by cases h
  | a :: b :: l, r, h => by
    unfold rawL at h
    split at h
    · rename_i c r' h1 h2
      cases h
      have := rawL_len l _ h2
      simp only [List.length_cons]
      omega
    · cases h
theorem dv_dig (n : Nat) (h : n < 16) : dv (dig n) = some n := by
  have : ∀ n, n < 16 → dv (dig n) = some n := by decide
  exact this n h
theorem rawL_hexL (l : List UInt8) : rawL (hexL l) = some l := by
  induction l with
  | nil => rfl
  | cons c l ih =>
    have e : hexL (c :: l) = dig (c.toNat / 16) :: dig (c.toNat % 16) :: hexL l := by simp [hexL, List.flatMap_cons]
    have hc := c.toNat_lt
    rw [e]
    unfold rawL
    unfold pair
    rw [dv_dig _ (by omega), dv_dig _ (by omega), ih]
    simp only []
    rw [show 16 * (c.toNat / 16) + c.toNat % 16 = c.toNat from by omega]
    simp
/-- All are digits. -/
def allD (l : List UInt8) : Bool := l.all fun c => (dv c).isSome
theorem rawL_some {l : List UInt8} (h : allD l = true) (h2 : l.length % 2 = 0) : ∃ r, rawL l = some r := by
  match l, h, h2 with
  | [], _, _ => exact ⟨[], rfl⟩
  | [_], _, h2 => simp at h2
  | a :: b :: l, h, h2 =>
    unfold allD at h
    simp only [List.all_cons, Bool.and_eq_true] at h
    obtain ⟨ha, hb, hl⟩ := h
    obtain ⟨r, hr⟩ := rawL_some (l := l) hl (by simp only [List.length_cons] at h2; omega)
    obtain ⟨x, hx⟩ := Option.isSome_iff_exists.1 ha
    obtain ⟨y, hy⟩ := Option.isSome_iff_exists.1 hb
    exact ⟨_, by unfold rawL; unfold pair; rw [hx, hy, hr]⟩
theorem rawL_all : ∀ {l r : List UInt8}, rawL l = some r → allD l = true
  | [], _, _ => rfl
  | [_], _, h => by cases h
  | a :: b :: l, r, h => by
    unfold rawL at h
    split at h
    · rename_i c r' h1 h2
      have ih := rawL_all h2
      unfold pair at h1
      split at h1
      · rename_i x y hx hy
        unfold allD at ih ⊢
        rw [List.all_cons, List.all_cons, hx, hy, ih]
        rfl
      · cases h1
    · cases h
theorem rawL_even {l r : List UInt8} (h : rawL l = some r) : l.length % 2 = 0 := by have := rawL_len l r h; omega
theorem rawL_odd {l : List UInt8} (h : ¬ l.length % 2 = 0) : rawL l = none := by
  cases e : rawL l with
  | none => rfl
  | some r => exact absurd (rawL_even e) h
theorem rawL_notD {l : List UInt8} (h : allD l = false) : rawL l = none := by
  cases e : rawL l with
  | none => rfl
  | some r => rw [rawL_all e] at h; cases h

/-! The document's digit. -/
theorem digit_k (k : Nat) (a : Int) : PRight.tambourref03_digit.f (k + 1) a = PRight.tambourref03_digit.f 1 a := by
  unfold PRight.tambourref03_digit.f
  simp only [PRight.tambourref03_digit.j0]
def dvI (c : UInt8) : Int := match dv c with | some n => (n : Int) | none => -1
theorem dvI_some {c : UInt8} {n : Nat} (h : dv c = some n) : dvI c = n := by unfold dvI; rw [h]
theorem dvI_none {c : UInt8} (h : dv c = none) : dvI c = -1 := by unfold dvI; rw [h]
theorem digit_f (c : UInt8) (k : Nat) : PRight.tambourref03_digit.f (k + 1) (c.toNat : Int) = some (dvI c) := by
  have : ∀ n : Fin 256, PRight.tambourref03_digit.f 1 (n.val : Int) = some (dvI (UInt8.ofFin n)) := by decide +kernel
  rw [digit_k]
  exact this c.toFin

/-! The document's Raw. -/
def nums (l : List UInt8) : List Int := l.map fun c => (c.toNat : Int)
theorem strOfNums_nums (l : List UInt8) : strOfNums (nums l) = bs l := by
  unfold strOfNums nums bs
  rw [List.map_map]
  congr 1
  congr 1
  conv => rhs; rw [← List.map_id l]
  apply List.map_congr_left
  intro c _
  simp
def outR (out : List UInt8) (o : Option (List UInt8)) : ByteArray × Int := match o with
  | some r => (bs (out ++ r), 0)
  | none => (⟨#[]⟩, 4)
def rawR (l : List UInt8) : ByteArray × Int := outR [] (rawL l)
theorem pair_some {a b : UInt8} {x y : Nat} (ha : dv a = some x) (hb : dv b = some y) : pair a b = some (UInt8.ofNat (16 * x + y)) := by unfold pair; rw [ha, hb]
theorem rawL_two (a b : UInt8) (l : List UInt8) : rawL (a :: b :: l) = (match pair a b, rawL l with
    | some c, some r => some (c :: r)
    | _, _ => none) := rfl
theorem rawL_bad {a b : UInt8} {l : List UInt8} (h : pair a b = none) : rawL (a :: b :: l) = none := by rw [rawL_two, h]
theorem rawL_good {a b c : UInt8} {l : List UInt8} (h : pair a b = some c) : rawL (a :: b :: l) = (rawL l).map (c :: ·) := by rw [rawL_two, h]; cases rawL l <;> rfl
theorem outR_step (out : List UInt8) (c : UInt8) (o : Option (List UInt8)) : outR (out ++ [c]) o = outR out (o.map (c :: ·)) := by
  cases o with
  | none => rfl
  | some r => simp [outR, List.append_assoc]
theorem byte_two {x y : Nat} (hx : x < 16) (hy : y < 16) : wrap64 (wrap64 ((x : Int) * 16) + (y : Int)) % 256 = (((UInt8.ofNat (16 * x + y)).toNat : Nat) : Int) := by
  have h1 : wrap64 ((x : Int) * 16) = (x : Int) * 16 := by unfold wrap64; omega
  have h2 : wrap64 ((x : Int) * 16 + (y : Int)) = (x : Int) * 16 + (y : Int) := by unfold wrap64; omega
  rw [h1, h2, UInt8.toNat_ofNat', Nat.mod_eq_of_lt (by omega)]
  omega
theorem drop_two {l : List UInt8} {i : Nat} (h : i + 1 < l.length) : l.drop i = l.getD i 0 :: l.getD (i + 1) 0 :: l.drop (i + 2) := by
  rw [List.drop_eq_getElem_cons (by omega), List.drop_eq_getElem_cons h, List.getD_eq_getElem?_getD, List.getD_eq_getElem?_getD, List.getElem?_eq_getElem h, List.getElem?_eq_getElem (by omega)]
  rfl
theorem raw_l0 (s : ByteArray) (hs : s.size ≤ 1000000) (n : Nat) : ∀ (k i : Nat) (out : List UInt8), i + 2 * n = s.size → out.length ≤ i → 2 * n + 3 ≤ k →
    PRight.tambourref03_Raw.l0 k s (nums out) i = some (outR out (rawL (s.data.toList.drop i))) := by
  induction n with
  | zero =>
    intro k i out hi ho hk
    obtain ⟨k, rfl⟩ : ∃ m, k = m + 1 := ⟨k - 1, by omega⟩
    simp only [PRight.tambourref03_Raw.l0]
    rw [if_neg (by omega), List.drop_of_length_le (by rw [size_list]; omega), strOfNums_nums]
    simp [rawL, outR]
  | succ n ih =>
    intro k i out hi ho hk
    obtain ⟨k, rfl⟩ : ∃ m, k = m + 3 := ⟨k - 3, by omega⟩
    have w1 : wrap64 ((i : Int) + 1) = ((i + 1 : Nat) : Int) := by rw [wrap_at (by omega) (by omega)]; omega
    have w2 : wrap64 ((i : Int) + 2) = ((i + 2 : Nat) : Int) := by unfold wrap64; omega
    have hd := drop_two (l := s.data.toList) (i := i) (by rw [size_list]; omega)
    simp only [PRight.tambourref03_Raw.l0]
    rw [if_pos (by omega), if_pos (by omega), Lin.bt_at s i (by omega), digit_f]
    rw [Option.bind_some]
    rw [w1, Lin.bt_at s (i + 1) (by omega), digit_f, hd]
    cases ha : dv (s.data.toList.getD i 0) with
    | none =>
      rw [dvI_none ha, if_pos (by omega)]
      simp only [PRight.tambourref03_Raw.j1, if_true]
      rw [rawL_bad (by unfold pair; rw [ha])]
      rfl
    | some x =>
      have hx := dv_lt ha
      rw [dvI_some ha, if_neg (by omega), if_pos (by omega), if_pos (by omega)]
      rw [Option.bind_some]
      cases hb : dv (s.data.toList.getD (i + 1) 0) with
      | none =>
        rw [dvI_none hb]
        simp only [PRight.tambourref03_Raw.j1]
        rw [if_pos (by decide)]
        rw [rawL_bad (by unfold pair; rw [ha, hb])]
        rfl
      | some y =>
        have hy := dv_lt hb
        rw [dvI_some hb]
        simp only [PRight.tambourref03_Raw.j1]
        rw [if_neg (by simp), if_pos (by omega), if_pos (by omega), Lin.bt_at s i (by omega), digit_f]
        rw [Option.bind_some]
        rw [w1, if_pos (by omega), if_pos (by omega), Lin.bt_at s (i + 1) (by omega), digit_f]
        rw [Option.bind_some]
        rw [dvI_some ha, dvI_some hb]
        rw [if_pos (by unfold nums; rw [List.length_map]; omega), w2]
        have e : nums out ++ [wrap64 (wrap64 ((x : Int) * 16) + (y : Int)) % 256] = nums (out ++ [UInt8.ofNat (16 * x + y)]) := by
          rw [byte_two hx hy]
          unfold nums
          rw [List.map_append]
          rfl
        rw [e, ih (k + 1) (i + 2) _ (by omega) (by rw [List.length_append, List.length_singleton]; omega) (by omega), outR_step, rawL_good (pair_some ha hb)]
theorem raw_f (s : ByteArray) (hs : s.size ≤ 1000000) : PRight.tambourref03_Raw.f (s.size + 3) s = some (rawR s.data.toList) := by
  have h0 := fun h1 h2 => raw_l0 s hs (s.size / 2) (s.size + 3) 0 [] h1 h2 (by omega)
  generalize s.size + 3 = k at *
  unfold PRight.tambourref03_Raw.f rawR
  by_cases h : s.size % 2 = 0
  · rw [if_pos (by omega)]
    exact h0 (by omega) (by simp)
  · rw [if_neg (by omega), rawL_odd (by rw [size_list]; exact h)]
    rfl
def rightL (l : List UInt8) : Bool := decide (l.length = 64) && (rawL l).isSome
theorem rawR_ok (l : List UInt8) : ((rawR l).2 == 0) = (rawL l).isSome := by
  unfold rawR
  cases rawL l <;> rfl
theorem right_f (s : ByteArray) (hs : s.size ≤ 1000000) : PRight.tambourref03_Right.f (s.size + 3) s = some (rightL s.data.toList) := by
  have h0 := raw_f s hs
  generalize s.size + 3 = k at *
  unfold PRight.tambourref03_Right.f
  rw [h0, Option.bind_some, rawR_ok]
  unfold rightL
  rw [size_list]
  by_cases h : s.size = 64
  · rw [if_pos (by omega), decide_eq_true h, Bool.true_and]
  · rw [if_neg (by omega), decide_eq_false h, Bool.false_and]

/-! Contracts. -/
theorem rawRef (s : ByteArray) (w : World) (hs : s.size ≤ 1000000) : Calls Tryd.prog 28 #[.string s] w fun e w' => e = .returned (.tuple #[.string (rawR s.data.toList).1, .int .i64 (rawR s.data.toList).2]) ∧ Below w.heap.size w w' :=
  PRight.tambourref03_Raw.calls (s.size + 3) s _ _ w (raw_f s hs)
theorem rightRef (s : ByteArray) (w : World) (hs : s.size ≤ 1000000) : Calls Tryd.prog 29 #[.string s] w fun e w' => e = .returned (.bool (rightL s.data.toList)) ∧ Below w.heap.size w w' :=
  PRight.tambourref03_Right.calls (s.size + 3) s _ w (right_f s hs)
end Go.Proofs.YtpecclcihefbaaaDoor.Dig
