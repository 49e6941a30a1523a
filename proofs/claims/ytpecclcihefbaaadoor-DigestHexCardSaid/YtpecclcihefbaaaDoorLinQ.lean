/- What the document's functions on lines answer (over the printed functions): plain lists. -/
import Derived.Test.YtpecclcihefbaaaDoorLinP
import Derived.Test.YtpecclcihefbaaaDoorPCheckx1
import Derived.Test.YtpecclcihefbaaaDoorPJoinx1
import Derived.Test.YtpecclcihefbaaaDoorPMarkerx1
import Derived.Test.YtpecclcihefbaaaDoorPSamex1
set_option linter.unusedVariables false
namespace Go.Proofs.YtpecclcihefbaaaDoor.Lin
open Go Go.RowKit Go.Proofs.YtpecclcihefbaaaDoorW.PrintWords

def bs (l : List UInt8) : ByteArray := ⟨l.toArray⟩
theorem bs_data (l : List UInt8) : (bs l).data.toList = l := by simp [bs]
theorem bs_of (s : ByteArray) : bs s.data.toList = s := by cases s; simp [bs]
theorem bs_size (l : List UInt8) : (bs l).size = l.length := by show l.toArray.size = _; simp
theorem bs_toList (l : List UInt8) : (bs l).toList = l := by rw [ByteArray.toList_eq, bs_data]
theorem size_list (s : ByteArray) : s.data.toList.length = s.size := by rw [Array.length_toList]; rfl
theorem bs_inj {a b : List UInt8} (h : bs a = bs b) : a = b := by rw [← bs_data a, h, bs_data]
theorem extract_bs (s : ByteArray) (a b : Nat) : s.extract a b = bs ((s.data.toList.take b).drop a) := by
  rw [← bs_of (s.extract a b)]
  congr 1
  rw [Lib.extract_data, List.drop_take]
theorem wrap_at {i : Int} (h0 : 0 ≤ i) (h : i ≤ 9223372036854775806) : wrap64 (i + 1) = i + 1 := by unfold wrap64; omega
theorem bt_at (s : ByteArray) (i : Nat) (h : i < s.size) : bt s i = ((s.data.toList.getD i 0).toNat : Int) := by
  unfold bt
  rw [dif_pos (by simpa using h), List.getD_eq_getElem?_getD, List.getElem?_eq_getElem (by rw [size_list]; exact h)]
  rfl
theorem byte_10 (c : UInt8) : ((c.toNat : Int) = 10) ↔ c = 10 := by
  constructor
  · intro h
    apply UInt8.toNat_inj.1
    have : c.toNat = 10 := by omega
    rw [this]; rfl
  · rintro rfl; rfl
def prep (x : List UInt8) (l : List (List UInt8)) : List (List UInt8) := (x ++ l.headD []) :: l.tail
theorem prep_nil (l : List (List UInt8)) (h : l ≠ []) : prep [] l = l := by
  cases l with
  | nil => exact absurd rfl h
  | cons a t => rfl

theorem split_l0 (s : ByteArray) (hs : s.size ≤ 1000000) (n : Nat) : ∀ (k i a : Nat) (pieces : List ByteArray), i + n = s.size → a ≤ i → pieces.length ≤ i → n + 2 ≤ k →
    PCheck.tambourref01_Split.l0 k s pieces a i = some (pieces ++ (prep ((s.data.toList.take i).drop a) (spl (s.data.toList.drop i))).map bs) := by
  induction n with
  | zero =>
    intro k i a ps hi ha hp hk
    obtain ⟨k, rfl⟩ : ∃ m, k = m + 2 := ⟨k - 2, by omega⟩
    simp only [PCheck.tambourref01_Split.l0]
    rw [if_pos (by omega), if_pos (by omega), if_pos (by omega), if_pos (by omega), if_pos (by omega), wrap_at (by omega) (by omega), if_neg (by omega)]
    have e0 : s.data.toList.drop i = [] := List.drop_of_length_le (by rw [size_list]; omega)
    rw [e0]
    simp [prep, spl, extract_bs]
  | succ n ih =>
    intro k i a ps hi ha hp hk
    obtain ⟨k, rfl⟩ : ∃ m, k = m + 1 := ⟨k - 1, by omega⟩
    simp only [PCheck.tambourref01_Split.l0]
    rw [if_pos (by omega), if_neg (by omega), if_pos (by omega), if_pos (by omega), bt_at s i (by omega), wrap_at (by omega) (by omega)]
    have hl : i < s.data.toList.length := by rw [size_list]; omega
    have hd : s.data.toList.drop i = s.data.toList.getD i 0 :: s.data.toList.drop (i + 1) := by
      rw [List.drop_eq_getElem_cons hl, List.getD_eq_getElem?_getD, List.getElem?_eq_getElem hl]; rfl
    rw [hd]
    have ht : s.data.toList.take (i + 1) = s.data.toList.take i ++ [s.data.toList.getD i 0] := by
      rw [List.take_add_one, List.getD_eq_getElem?_getD, List.getElem?_eq_getElem hl]; rfl
    by_cases hc : s.data.toList.getD i 0 = 10
    · rw [if_pos ((byte_10 _).2 hc), if_pos (by omega), if_pos (by omega), if_pos (by omega)]
      have e : ((i : Int) + 1) = ((i + 1 : Nat) : Int) := by omega
      rw [e, ih k (i + 1) (i + 1) _ (by omega) (by omega) (by simp; omega) (by omega), hc, spl_10]
      rw [List.drop_of_length_le (by simp; omega), prep_nil _ (spl_ne _)]
      simp [prep, extract_bs]
    · rw [if_neg (fun h => hc ((byte_10 _).1 h))]
      have e : ((i : Int) + 1) = ((i + 1 : Nat) : Int) := by omega
      rw [e, ih k (i + 1) a _ (by omega) (by omega) (by omega) (by omega), ht]
      obtain ⟨h, t, e2⟩ := spl_form (s.data.toList.drop (i + 1))
      rw [spl_cons hc e2, e2, List.drop_append_of_le_length (by simp; omega)]
      simp [prep]

theorem split_f (s : ByteArray) (hs : s.size ≤ 1000000) : PCheck.tambourref01_Split.f (s.size + 2) s = some ((spl s.data.toList).map bs) := by
  have := split_l0 s hs s.size (s.size + 2) 0 0 [] (by omega) (by omega) (by simp) (by omega)
  unfold PCheck.tambourref01_Split.f
  rw [show ((0 : Nat) : Int) = 0 from rfl] at this
  rw [this]
  simp [prep_nil _ (spl_ne _)]

/-! Same -/
theorem rdOf_at {α : Type} (d : α) (l : List α) (i : Nat) : rdOf d l (i : Int) = l.getD i d := by unfold rdOf; simp
theorem toList_inj {a b : ByteArray} (h : a.toList = b.toList) : a = b := by
  rw [ByteArray.toList_eq, ByteArray.toList_eq] at h
  rw [← bs_of a, h, bs_of]
theorem same_l0 (a b : List ByteArray) (hl : a.length = b.length) (hs : a.length ≤ 9223372036854775807) (n : Nat) : ∀ (k i : Nat), i + n = a.length → n < k →
    PSame.tambourref01_Same.l0 k a b i = some (decide (a.drop i = b.drop i)) := by
  induction n with
  | zero =>
    intro k i hi hk
    obtain ⟨k, rfl⟩ : ∃ m, k = m + 1 := ⟨k - 1, by omega⟩
    simp only [PSame.tambourref01_Same.l0]
    rw [if_neg (by omega), List.drop_of_length_le (by omega), List.drop_of_length_le (by omega)]
    simp
  | succ n ih =>
    intro k i hi hk
    obtain ⟨k, rfl⟩ : ∃ m, k = m + 1 := ⟨k - 1, by omega⟩
    simp only [PSame.tambourref01_Same.l0]
    have h1 : i < a.length := by omega
    have h2 : i < b.length := by omega
    rw [if_pos (by omega), if_pos (by omega), if_pos (by omega), rdOf_at, rdOf_at, wrap_at (by omega) (by omega)]
    have d1 : a.drop i = a.getD i ByteArray.empty :: a.drop (i + 1) := by
      rw [List.drop_eq_getElem_cons h1, List.getD_eq_getElem?_getD, List.getElem?_eq_getElem h1]; rfl
    have d2 : b.drop i = b.getD i ByteArray.empty :: b.drop (i + 1) := by
      rw [List.drop_eq_getElem_cons h2, List.getD_eq_getElem?_getD, List.getElem?_eq_getElem h2]; rfl
    rw [d1, d2]
    by_cases hc : (a.getD i ByteArray.empty).toList = (b.getD i ByteArray.empty).toList
    · have e : ((i : Int) + 1) = ((i + 1 : Nat) : Int) := by omega
      rw [if_pos hc, e, ih k (i + 1) (by omega) (by omega), toList_inj hc]
      simp
    · rw [if_neg hc]
      have : ¬ (a.getD i ByteArray.empty :: a.drop (i + 1) = b.getD i ByteArray.empty :: b.drop (i + 1)) := fun e => hc (by injection e with e1 e2; rw [e1])
      rw [decide_eq_false this]
theorem same_f (a b : List ByteArray) (hs : a.length ≤ 9223372036854775807) : PSame.tambourref01_Same.f (a.length + 1) a b = some (decide (a = b)) := by
  unfold PSame.tambourref01_Same.f
  by_cases hl : a.length = b.length
  · rw [if_pos (by omega)]
    have := same_l0 a b hl hs a.length (a.length + 1) 0 (by omega) (by omega)
    simpa using this
  · rw [if_neg (by omega)]
    have : ¬ a = b := fun e => hl (by rw [e])
    simp [this]

end Go.Proofs.YtpecclcihefbaaaDoor.Lin
