/- What the document's Join and Marker answer (over the printed functions): plain lists. -/
import Derived.Test.YtpecclcihefbaaaDoorLinQ
set_option linter.unusedVariables false
namespace Go.Proofs.YtpecclcihefbaaaDoor.Lin
open Go Go.RowKit Go.Proofs.YtpecclcihefbaaaDoorW.PrintWords

def ls (l : List ByteArray) : List (List UInt8) := l.map (·.data.toList)
theorem ls_bs (l : List (List UInt8)) : ls (l.map bs) = l := by
  induction l with
  | nil => rfl
  | cons a l ih => simp only [ls, List.map_cons, List.map_map] at ih ⊢; rw [bs_data]; congr 1
theorem bs_ls (l : List ByteArray) : (ls l).map bs = l := by
  induction l with
  | nil => rfl
  | cons a l ih => simp only [ls, List.map_cons, List.map_map] at ih ⊢; rw [bs_of]; congr 1
theorem map_bs_inj {a b : List (List UInt8)} : a.map bs = b.map bs ↔ a = b :=
  ⟨fun h => by rw [← ls_bs a, h, ls_bs], fun h => by rw [h]⟩
theorem jn_snoc (l : List (List UInt8)) (x : List UInt8) (h : l ≠ []) : jn (l ++ [x]) = jn l ++ 10 :: x := by
  induction l with
  | nil => exact absurd rfl h
  | cons a l ih =>
    cases l with
    | nil => rfl
    | cons b l =>
      rw [List.cons_append, jn_cons a (by simp), jn_cons a (by simp), ih (by simp)]
      simp
theorem jn_prefix (a b : List (List UInt8)) : (jn a).length ≤ (jn (a ++ b)).length := by
  induction a with
  | nil => simp [jn]
  | cons x a ih =>
    cases a with
    | nil =>
      cases b with
      | nil => exact Nat.le_refl _
      | cons y b =>
        show x.length ≤ (jn (x :: y :: b)).length
        rw [jn_cons x (by simp), List.length_append]
        omega
    | cons y a =>
      rw [List.cons_append, jn_cons x (by simp), jn_cons x (by simp)]
      rw [List.length_append, List.length_append]
      exact Nat.add_le_add_left (Nat.succ_le_succ ih) _
theorem bs_append (a b : List UInt8) : bs a ++ bs b = bs (a ++ b) := by
  rw [← bs_of (bs a ++ bs b)]
  congr 1

theorem join_l0 (x : List ByteArray) (hx : (jn (ls x)).length ≤ 4000000000000000000) (hn : x.length ≤ 4000000000000000000) (n : Nat) : ∀ (k i : Nat), i + n = x.length → n < k →
    PJoin.tambourref01_Join.l0 k x (bs (jn (ls (x.take i)))) i = some (bs (jn (ls x))) := by
  induction n with
  | zero =>
    intro k i hi hk
    obtain ⟨k, rfl⟩ : ∃ m, k = m + 1 := ⟨k - 1, by omega⟩
    simp only [PJoin.tambourref01_Join.l0]
    rw [if_neg (by omega), List.take_of_length_le (by omega)]
  | succ n ih =>
    intro k i hi hk
    obtain ⟨k, rfl⟩ : ∃ m, k = m + 1 := ⟨k - 1, by omega⟩
    have h1 : i < x.length := by omega
    have e : ((i : Int) + 1) = ((i + 1 : Nat) : Int) := by omega
    have ht : ls (x.take (i + 1)) = ls (x.take i) ++ [(x.getD i ByteArray.empty).data.toList] := by
      rw [List.take_add_one, List.getD_eq_getElem?_getD, List.getElem?_eq_getElem h1]
      unfold ls
      rw [List.map_append]
      rfl
    have hp : (jn (ls (x.take (i + 1)))).length ≤ (jn (ls x)).length := by
      have := jn_prefix (ls (x.take (i + 1))) (ls (x.drop (i + 1)))
      rwa [← show ls x = ls (x.take (i + 1)) ++ ls (x.drop (i + 1)) from by simp only [ls]; rw [← List.map_append, List.take_append_drop]] at this
    have ih' := ih k (i + 1) (by omega) (by omega)
    rw [ht] at hp ih'
    have hs : (x.getD i ByteArray.empty).size = (x.getD i ByteArray.empty).data.toList.length := (size_list _).symm
    have hb := bs_of (x.getD i ByteArray.empty)
    simp only [PJoin.tambourref01_Join.l0]
    rw [if_pos (by omega), rdOf_at, wrap_at (by omega) (by omega), e]
    generalize x.getD i ByteArray.empty = y at *
    by_cases h0 : i = 0
    · subst h0
      rw [if_neg (by omega), if_pos (by omega)]
      have e2 : ls (x.take 0) = [] := rfl
      rw [e2] at hp ih' ⊢
      rw [List.nil_append] at hp ih'
      have e5 : jn [y.data.toList] = y.data.toList := rfl
      rw [e5] at hp ih'
      have e3 : (bs (jn [])).size = 0 := rfl
      rw [if_pos (by omega)]
      show PJoin.tambourref01_Join.l0 k x (bs [] ++ y) _ = _
      have e4 : bs [] ++ y = y := by rw [← hb, bs_append, List.nil_append]
      rw [e4]
      rw [hb] at ih'
      exact ih'
    · have hne : ls (x.take i) ≠ [] := by
        intro he
        have e2 : (ls (x.take i)).length = i := by simp [ls]; omega
        rw [he] at e2
        exact h0 e2.symm
      rw [jn_snoc _ _ hne, List.length_append, List.length_cons] at hp
      rw [jn_snoc _ _ hne] at ih'
      rw [if_pos (by omega)]
      rw [bs_size, if_pos (by omega)]
      rw [if_pos (by omega)]
      have e1 : (⟨#[10]⟩ : ByteArray) = bs [10] := rfl
      rw [e1, bs_append, bs_size, List.length_append, hs, if_pos (by simp; omega)]
      have e4 : bs (jn (ls (x.take i)) ++ [10]) ++ y = bs (jn (ls (x.take i)) ++ 10 :: y.data.toList) := by
        rw [← hb, bs_append, bs_data, List.append_assoc]; rfl
      rw [e4]
      exact ih'
theorem join_f (x : List ByteArray) (hx : (jn (ls x)).length ≤ 4000000000000000000) (hn : x.length ≤ 4000000000000000000) :
    PJoin.tambourref01_Join.f (x.length + 1) x = some (bs (jn (ls x))) := by
  have := join_l0 x hx hn x.length (x.length + 1) 0 (by omega) (by omega)
  unfold PJoin.tambourref01_Join.f
  simpa [ls, jn, bs] using this

/-! Marker -/
def mrk (l : List UInt8) : Bool := (List.replicate 7 62).isPrefixOf l || (List.replicate 7 61).isPrefixOf l || (List.replicate 7 60).isPrefixOf l
theorem marker_short (s : ByteArray) (h : s.size < 7) : PMarker.tambourref01_Marker.f 9 s = some (mrk s.data.toList) := by
  unfold PMarker.tambourref01_Marker.f
  rw [if_pos (by omega)]
  simp only [PMarker.tambourref01_Marker.j0, if_true]
  have hl : s.data.toList.length < 7 := by rw [size_list]; exact h
  generalize s.data.toList = l at hl
  congr 1
  symm
  unfold mrk
  have hp : ∀ c : UInt8, (List.replicate 7 c).isPrefixOf l = false := fun c => by
    rw [Bool.eq_false_iff]
    intro hc
    have := (List.isPrefixOf_iff_prefix.1 hc).length_le
    simp at this
    omega
  simp only [hp]; rfl
theorem long_form {l : List UInt8} (h : 7 ≤ l.length) : ∃ a b c d e f g r, l = a :: b :: c :: d :: e :: f :: g :: r := by
  match l, h with
  | a :: b :: c :: d :: e :: f :: g :: r, _ => exact ⟨a, b, c, d, e, f, g, r, rfl⟩
theorem byte_eq (a b : UInt8) : ((a.toNat : Int) = b.toNat) ↔ a = b := by
  constructor
  · intro h; apply UInt8.toNat_inj.1; omega
  · rintro rfl; rfl
theorem byte_is (a : UInt8) (n : Nat) (h : n < 256) : ((a.toNat : Int) = (n : Int)) ↔ a = UInt8.ofNat n := by
  rw [← byte_eq a (UInt8.ofNat n), UInt8.toNat_ofNat', Nat.mod_eq_of_lt h]
theorem marker_long (s : ByteArray) (h : 7 ≤ s.size) : PMarker.tambourref01_Marker.f 9 s = some (mrk s.data.toList) := by
  obtain ⟨a, b, c, d, e, f, g, r, hl⟩ := long_form (l := s.data.toList) (by rw [size_list]; exact h)
  have b0 : bt s 0 = a.toNat := by have := bt_at s 0 (by omega); rw [hl] at this; exact this
  have b1 : bt s 1 = b.toNat := by have := bt_at s 1 (by omega); rw [hl] at this; exact this
  have b2 : bt s 2 = c.toNat := by have := bt_at s 2 (by omega); rw [hl] at this; exact this
  have b3 : bt s 3 = d.toNat := by have := bt_at s 3 (by omega); rw [hl] at this; exact this
  have b4 : bt s 4 = e.toNat := by have := bt_at s 4 (by omega); rw [hl] at this; exact this
  have b5 : bt s 5 = f.toNat := by have := bt_at s 5 (by omega); rw [hl] at this; exact this
  have b6 : bt s 6 = g.toNat := by have := bt_at s 6 (by omega); rw [hl] at this; exact this
  have L : ∀ k, PMarker.tambourref01_Marker.l0 (k + 7) s 1 = some (decide (b = a ∧ c = a ∧ d = a ∧ e = a ∧ f = a ∧ g = a)) := by
    intro k
    have hz : (0 : Int) < s.size := by omega
    have q1 : (1 : Int) < s.size := by omega
    have q2 : (2 : Int) < s.size := by omega
    have q3 : (3 : Int) < s.size := by omega
    have q4 : (4 : Int) < s.size := by omega
    have q5 : (5 : Int) < s.size := by omega
    have q6 : (6 : Int) < s.size := by omega
    simp only [PMarker.tambourref01_Marker.l0]
    have w1 : wrap64 (1 + 1) = 2 := by rw [wrap_at (by omega) (by omega)]; rfl
    have w2 : wrap64 (2 + 1) = 3 := by rw [wrap_at (by omega) (by omega)]; rfl
    have w3 : wrap64 (3 + 1) = 4 := by rw [wrap_at (by omega) (by omega)]; rfl
    have w4 : wrap64 (4 + 1) = 5 := by rw [wrap_at (by omega) (by omega)]; rfl
    have w5 : wrap64 (5 + 1) = 6 := by rw [wrap_at (by omega) (by omega)]; rfl
    have w6 : wrap64 (6 + 1) = 7 := by rw [wrap_at (by omega) (by omega)]; rfl
    simp only [w1, w2, w3, w4, w5, w6, b0, b1, b2, b3, b4, b5, b6, byte_eq, hz, q1, q2, q3, q4, q5, q6, if_true,
      show ((1 : Int) < 7) = True from by simp, show ((2 : Int) < 7) = True from by simp, show ((3 : Int) < 7) = True from by simp, show ((4 : Int) < 7) = True from by simp, show ((5 : Int) < 7) = True from by simp, show ((6 : Int) < 7) = True from by simp, show ((7 : Int) < 7) = False from by simp,
      show ((0 : Int) ≤ 1) = True from by simp, show ((0 : Int) ≤ 2) = True from by simp, show ((0 : Int) ≤ 3) = True from by simp, show ((0 : Int) ≤ 4) = True from by simp, show ((0 : Int) ≤ 5) = True from by simp, show ((0 : Int) ≤ 6) = True from by simp, if_false]
    by_cases e1 : b = a <;> by_cases e2 : c = a <;> by_cases e3 : d = a <;> by_cases e4 : e = a <;> by_cases e5 : f = a <;> by_cases e6 : g = a <;> simp [e1, e2, e3, e4, e5, e6]
  unfold PMarker.tambourref01_Marker.f
  rw [if_neg (by omega), if_pos (by omega), b0, hl]
  simp only [PMarker.tambourref01_Marker.j0, Bool.false_eq_true, if_false, L]
  have s1 : ((a.toNat : Int) = 62) ↔ a = 62 := byte_is a 62 (by omega)
  have s2 : ((a.toNat : Int) = 61) ↔ a = 61 := byte_is a 61 (by omega)
  have s3 : ((a.toNat : Int) = 60) ↔ a = 60 := byte_is a 60 (by omega)
  have s3' : ((a.toNat : Int) != 60) = !decide (a = 60) := by
    by_cases h : a = 60
    · rw [decide_eq_true h, bne_eq_false_iff_eq.2 (s3.2 h)]; rfl
    · rw [decide_eq_false h, bne_iff_ne.2 (fun e => h (s3.1 e))]; rfl
  simp only [s1, s2, s3']
  have pf : ∀ z : UInt8, (List.replicate 7 z).isPrefixOf (a :: b :: c :: d :: e :: f :: g :: r) = decide (a = z ∧ b = z ∧ c = z ∧ d = z ∧ e = z ∧ f = z ∧ g = z) := by
    intro z
    simp only [List.replicate, List.isPrefixOf]
    rw [Bool.eq_iff_iff]
    simp only [Bool.and_eq_true, beq_iff_eq, decide_eq_true_eq, and_true]
    constructor
    · rintro ⟨h1, h2, h3, h4, h5, h6, h7⟩; exact ⟨h1.symm, h2.symm, h3.symm, h4.symm, h5.symm, h6.symm, h7.symm⟩
    · rintro ⟨h1, h2, h3, h4, h5, h6, h7⟩; exact ⟨h1.symm, h2.symm, h3.symm, h4.symm, h5.symm, h6.symm, h7.symm⟩
  unfold mrk
  simp only [pf]
  by_cases h1 : a = 62
  · subst h1; simp
  · by_cases h2 : a = 61
    · subst h2; simp
    · by_cases h3 : a = 60
      · subst h3; simp
      · simp [h1, h2, h3]
theorem marker_f (s : ByteArray) : PMarker.tambourref01_Marker.f 9 s = some (mrk s.data.toList) := by
  by_cases h : s.size < 7
  · exact marker_short s h
  · exact marker_long s (by omega)

end Go.Proofs.YtpecclcihefbaaaDoor.Lin
