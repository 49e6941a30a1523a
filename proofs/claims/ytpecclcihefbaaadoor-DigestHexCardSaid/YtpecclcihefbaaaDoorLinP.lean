/- A text's lines as lists of bytes: cut at each byte 10, and joined again. -/
import Derived.Lib.SplitLaws
import Derived.Lib.Join
set_option linter.unusedVariables false
namespace Go.Proofs.YtpecclcihefbaaaDoor.Lin
open Go

/-- The lines. -/
def spl : List UInt8 → List (List UInt8)
  | [] => [[]]
  | c :: l => if c = 10 then [] :: spl l else (c :: (spl l).headD []) :: (spl l).tail
theorem spl_ne (l : List UInt8) : spl l ≠ [] := by
  cases l with
  | nil => simp [spl]
  | cons c l => unfold spl; split <;> simp
theorem spl_form (l : List UInt8) : ∃ h t, spl l = h :: t := by
  cases h : spl l with
  | nil => exact absurd h (spl_ne l)
  | cons a t => exact ⟨a, t, rfl⟩
theorem spl_10 (l : List UInt8) : spl (10 :: l) = [] :: spl l := by rw [spl, if_pos rfl]
theorem spl_cons {c : UInt8} {l h : List UInt8} {t : List (List UInt8)} (hc : c ≠ 10) (e : spl l = h :: t) : spl (c :: l) = (c :: h) :: t := by
  rw [spl, if_neg hc, e]; rfl

theorem index_cons_eq (l : List UInt8) : Lib.index (10 :: l) [10] = ((0 : Nat) : Int) := by rw [Lib.index]; simp [List.isPrefixOf]
theorem index_cons_ne {c : UInt8} (l : List UInt8) (h : c ≠ 10) : Lib.index (c :: l) [10] = if Lib.index l [10] == -1 then -1 else Lib.index l [10] + 1 := by
  have hp : ([10] : List UInt8).isPrefixOf (c :: l) = false := by simp [List.isPrefixOf, Ne.symm h]
  rw [Lib.index, hp]; simp

/-- The library's cut is this one. -/
theorem splitK_spl : ∀ (l : List UInt8), Lib.splitK [10] 0 (Lib.count l [10]) l = spl l
  | [] => by rw [Lib.count_miss (by simp [Lib.index])]; rfl
  | c :: l => by
    have ih := splitK_spl l
    by_cases h : c = 10
    · subst h
      rw [Lib.count_cons_eq, Nat.add_comm, spl_10, ← ih]
      rw [Lib.splitK, index_cons_eq]
      simp
    · rw [Lib.count_cons_ne c 10 l h]
      obtain ⟨hd, tl, e⟩ := spl_form l
      rw [spl_cons h e]
      rw [e] at ih
      generalize Lib.count l [10] = n at ih
      cases n with
      | zero =>
        simp only [Lib.splitK] at ih ⊢
        injection ih with e1 e2
        subst e1 e2
        rfl
      | succ n =>
        have hge := Lib.index_ge l [10]
        rw [Lib.splitK] at ih ⊢
        rw [index_cons_ne l h]
        by_cases hm : Lib.index l [10] = -1
        · rw [hm] at ih ⊢
          simp at ih ⊢
          obtain ⟨rfl, rfl⟩ := ih
          first | done | exact ⟨rfl, rfl⟩
        · obtain ⟨j, hj⟩ : ∃ j : Nat, Lib.index l [10] = j := ⟨(Lib.index l [10]).toNat, by omega⟩
          rw [hj] at ih ⊢
          have e0 : ((j : Int) == -1) = false := by rw [beq_eq_false_iff_ne]; omega
          have e1 : ((j : Int) + 1 == -1) = false := by rw [beq_eq_false_iff_ne]; omega
          rw [e0] at ih ⊢
          simp only [Bool.false_eq_true, if_false] at ih ⊢
          rw [e1]
          simp only [Bool.false_eq_true, if_false]
          have e2 : ((j : Int) + 1).toNat = j + 1 := by omega
          rw [e2]
          simp only [Int.toNat_natCast, Nat.add_zero, List.length_cons, List.length_nil] at ih ⊢
          injection ih with i1 i2
          rw [← i1, ← i2]
          simp [List.take_succ_cons, List.drop_succ_cons]

theorem spl_length (l : List UInt8) : (spl l).length = l.count 10 + 1 := by
  induction l with
  | nil => rfl
  | cons c l ih =>
    obtain ⟨h, t, e⟩ := spl_form l
    by_cases hc : c = 10
    · subst hc; rw [spl_10, List.length_cons, ih, List.count_cons_self]
    · rw [spl_cons hc e, List.count_cons_of_ne (by simpa using hc), ← ih, e]; rfl

/-- Lines as one text. -/
def jn : List (List UInt8) → List UInt8
  | [] => []
  | [x] => x
  | x :: y :: r => x ++ 10 :: jn (y :: r)
theorem join_jn : ∀ l : List (List UInt8), Lib.join l [10] = jn l
  | [] => rfl
  | [x] => Lib.join_one x [10]
  | x :: y :: r => by
    have ih := join_jn (y :: r)
    unfold jn
    rw [← ih]
    simp [Lib.join, List.intercalate]
theorem jn_cons (x : List UInt8) {r : List (List UInt8)} (h : r ≠ []) : jn (x :: r) = x ++ 10 :: jn r := by
  cases r with
  | nil => exact absurd rfl h
  | cons y r => rfl
theorem jn_spl (l : List UInt8) : jn (spl l) = l := by
  induction l with
  | nil => rfl
  | cons c l ih =>
    obtain ⟨h, t, e⟩ := spl_form l
    by_cases hc : c = 10
    · subst hc; rw [spl_10, jn_cons _ (spl_ne l), ih]; rfl
    · rw [spl_cons hc e]
      rw [e] at ih
      cases t with
      | nil => simp only [jn] at ih ⊢; rw [ih]
      | cons y t => rw [jn_cons _ (by simp)] at ih ⊢; rw [List.cons_append, ih]
theorem spl_plain (x : List UInt8) (h : ∀ c ∈ x, c ≠ 10) : spl x = [x] := by
  induction x with
  | nil => rfl
  | cons c x ih => exact spl_cons (h c (by simp)) (ih fun d hd => h d (by simp [hd]))
theorem spl_append_10 (x l : List UInt8) (h : ∀ c ∈ x, c ≠ 10) : spl (x ++ 10 :: l) = x :: spl l := by
  induction x with
  | nil => exact spl_10 l
  | cons c x ih => rw [List.cons_append]; exact spl_cons (h c (by simp)) (ih fun d hd => h d (by simp [hd]))
theorem spl_jn : ∀ (l : List (List UInt8)), l ≠ [] → (∀ x ∈ l, ∀ c ∈ x, c ≠ 10) → spl (jn l) = l
  | [], h, _ => absurd rfl h
  | [x], _, h => spl_plain x (h x (by simp))
  | x :: y :: r, _, h => by
    rw [jn, spl_append_10 _ _ (h x (by simp)), spl_jn (y :: r) (by simp) (fun z hz => h z (by simp only [List.mem_cons] at hz ⊢; exact .inr hz))]

/-- A text and a text behind it. -/
def glue (a b : List (List UInt8)) : List (List UInt8) := a.dropLast ++ (a.getLastD [] ++ b.headD []) :: b.tail
theorem spl_append (a b : List UInt8) : spl (a ++ b) = glue (spl a) (spl b) := by
  induction a with
  | nil =>
    obtain ⟨h, t, e⟩ := spl_form b
    simp [glue, spl, e]
  | cons c a ih =>
    obtain ⟨h, t, e⟩ := spl_form a
    by_cases hc : c = 10
    · subst hc
      rw [List.cons_append, spl_10, spl_10, ih, e]
      simp [glue, List.dropLast, List.getLastD]
    · rw [e] at ih
      rw [spl_cons hc e]
      cases t with
      | nil =>
        simp only [glue, List.dropLast, List.nil_append, List.getLastD] at ih ⊢
        rw [List.cons_append, spl_cons hc ih]
        rfl
      | cons y t =>
        have ih' : spl (a ++ b) = h :: ((y :: t).dropLast ++ ((y :: t).getLastD [] ++ (spl b).headD []) :: (spl b).tail) := by
          rw [ih]; simp [glue, List.dropLast, List.getLastD]
        rw [List.cons_append, spl_cons hc ih']
        simp [glue, List.dropLast, List.getLastD]

end Go.Proofs.YtpecclcihefbaaaDoor.Lin
