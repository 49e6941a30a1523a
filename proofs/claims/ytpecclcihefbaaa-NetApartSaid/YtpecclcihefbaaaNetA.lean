/- The walks of package net: a way as a queue. -/
import Derived.Test.YtpecclcihefbaaaProg
import Derived.Test.YtpecclcihefbaaaBase
set_option linter.unusedVariables false
set_option linter.unusedSimpArgs false
namespace Go.Proofs.Ytpecclcihefbaaa.NetA
open Go.RowKit Go.Proofs.Ytpecclcihefbaaa.B

abbrev Tx := ByteArray × Bool
abbrev d0 : Tx := (ByteArray.empty, false)
/-- the cells of a ring -/
def flat (L : List Tx) : List Value := L.flatMap fun x => [.string x.1, .bool x.2]
def ringA (L : List Tx) (first n : Nat) : Array Value := (flat L ++ [Value.int .i64 first, Value.int .i64 n]).toArray

structure Ring (w : World) (b : Nat) (L : List Tx) (first n : Nat) : Prop where
  blk : w.heap[b]? = some (.cells (ringA L first n) 54 (0, 0))
  len : L.length = 200
  fl : first < 200
  nl : n ≤ 200

theorem flat_length (L : List Tx) : (flat L).length = 2 * L.length := by
  induction L with
  | nil => rfl
  | cons x r ih => simp [flat] at ih ⊢; omega

theorem flat_get (L : List Tx) : ∀ i, i < L.length → (flat L)[2 * i]? = some (.string (L.getD i d0).1) ∧ (flat L)[2 * i + 1]? = some (.bool (L.getD i d0).2) := by
  induction L with
  | nil => intro i h; simp at h
  | cons x r ih =>
    intro i h
    cases i with
    | zero => simp [flat]
    | succ i =>
      have := ih i (by simpa using h)
      simp only [flat, List.flatMap_cons, List.cons_append, List.nil_append] at this ⊢
      rw [show 2 * (i + 1) = 2 * i + 1 + 1 from by omega]
      simpa using this

theorem flat_set (L : List Tx) (x : Tx) : ∀ i, ((flat L).set (i * 2) (.string x.1)).set (i * 2 + 1) (.bool x.2) = flat (L.set i x) := by
  induction L with
  | nil => intro i; simp [flat]
  | cons y r ih =>
    intro i
    cases i with
    | zero => simp [flat]
    | succ i =>
      have := ih i
      simp only [flat, List.flatMap_cons, List.cons_append, List.nil_append, List.set_cons_succ] at this ⊢
      rw [show (i + 1) * 2 = i * 2 + 1 + 1 from by omega]
      simpa using this

theorem ringA_set (L : List Tx) (first n i : Nat) (x : Tx) (hi : i < L.length) :
    ((ringA L first n).setIfInBounds (i * 2) (.string x.1)).setIfInBounds (i * 2 + 1) (.bool x.2) = ringA (L.set i x) first n := by
  have hl := flat_length L
  simp only [ringA, List.setIfInBounds_toArray]
  rw [List.set_append_left _ _ (by omega), List.set_append_left _ _ (by simp; omega), flat_set]
theorem ringA_first (L : List Tx) (first n f' : Nat) (hl : L.length = 200) : (ringA L first n).setIfInBounds 400 (.int .i64 f') = ringA L f' n := by
  have h := flat_length L
  simp only [ringA, List.setIfInBounds_toArray]
  rw [List.set_append_right _ _ (by omega), show 400 - (flat L).length = 0 from by omega]; rfl
theorem ringA_n (L : List Tx) (first n n' : Nat) (hl : L.length = 200) : (ringA L first n).setIfInBounds 401 (.int .i64 n') = ringA L first n' := by
  have h := flat_length L
  simp only [ringA, List.setIfInBounds_toArray]
  rw [List.set_append_right _ _ (by omega), show 401 - (flat L).length = 1 from by omega]; rfl

section
variable {w : World} {b : Nat} {L : List Tx} {first n : Nat}
theorem ring_s (h : Ring w b L first n) (i : Nat) (hi : i < 200) : w.cell? ⟨b, i * 2, none⟩ = some (.string (L.getD i d0).1) := by
  have := flat_get L i (by rw [h.len]; exact hi)
  have hl := flat_length L
  have h2 := h.len
  rw [Nat.mul_comm]
  simp only [World.cell?, h.blk, ringA, Option.isSome_none, Bool.false_eq_true, if_false, List.getElem?_toArray]
  rw [List.getElem?_append_left (by omega)]; exact this.1
theorem ring_o (h : Ring w b L first n) (i : Nat) (hi : i < 200) : w.cell? ⟨b, i * 2 + 1, none⟩ = some (.bool (L.getD i d0).2) := by
  have := flat_get L i (by rw [h.len]; exact hi)
  have hl := flat_length L
  have h2 := h.len
  rw [Nat.mul_comm]
  simp only [World.cell?, h.blk, ringA, Option.isSome_none, Bool.false_eq_true, if_false, List.getElem?_toArray]
  rw [List.getElem?_append_left (by omega)]; exact this.2
theorem ring_first (h : Ring w b L first n) : w.cell? ⟨b, 400, none⟩ = some (.int .i64 first) := by
  have hl := flat_length L
  have h2 := h.len
  simp only [World.cell?, h.blk, ringA, Option.isSome_none, Bool.false_eq_true, if_false, List.getElem?_toArray]
  rw [List.getElem?_append_right (by omega)]; rw [show 400 - (flat L).length = 0 from by omega]; rfl
theorem ring_n (h : Ring w b L first n) : w.cell? ⟨b, 401, none⟩ = some (.int .i64 n) := by
  have hl := flat_length L
  have h2 := h.len
  simp only [World.cell?, h.blk, ringA, Option.isSome_none, Bool.false_eq_true, if_false, List.getElem?_toArray]
  rw [List.getElem?_append_right (by omega)]; rw [show 401 - (flat L).length = 1 from by omega]; rfl
theorem Ring.lt (h : Ring w b L first n) : b < w.heap.size := heap_lt h.blk
end

/-- A way holds a queue. -/
def WayQ (w : World) (b : Nat) (q : List Tx) : Prop := ∃ L first, Ring w b L first q.length ∧ ∀ k, k < q.length → L.getD ((first + k) % 200) d0 = q.getD k d0

theorem WayQ.le {w : World} {b : Nat} {q : List Tx} (h : WayQ w b q) : q.length ≤ 200 := by obtain ⟨L, f, h, _⟩ := h; exact h.nl
theorem WayQ.lt {w : World} {b : Nat} {q : List Tx} (h : WayQ w b q) : b < w.heap.size := by obtain ⟨L, f, h, _⟩ := h; exact h.lt
theorem WayQ.tch {w w' : World} {b : Nat} {q : List Tx} (h : WayQ w b q) {S : Nat → Prop} (ht : Tch S w w') (hs : ¬ S b) : WayQ w' b q := by
  obtain ⟨L, f, h, hq⟩ := h
  exact ⟨L, f, ⟨ht.heap h.blk hs, h.len, h.fl, h.nl⟩, hq⟩
theorem WayQ.n {w : World} {b : Nat} {q : List Tx} (h : WayQ w b q) : w.cell? ⟨b, 401, none⟩ = some (.int .i64 q.length) := by obtain ⟨L, f, h, _⟩ := h; exact ring_n h
theorem WayQ.fr {w : World} {b : Nat} {q : List Tx} (h : WayQ w b q) (i : Nat) : w.frozen? ⟨b, i, none⟩ = false := by obtain ⟨L, f, h, _⟩ := h; exact fr_of h.blk i

theorem getD_set (L : List Tx) (i j : Nat) (x : Tx) (h : i < L.length) : (L.set i x).getD j d0 = if i = j then x else L.getD j d0 := by
  simp only [List.getD_eq_getElem?_getD, List.getElem?_set]
  split
  · subst_vars; simp
  · rfl

theorem q_push {L : List Tx} {first : Nat} {q : List Tx} (x : Tx) (hl : L.length = 200) (hn : q.length < 200) (h : ∀ k, k < q.length → L.getD ((first + k) % 200) d0 = q.getD k d0) :
    ∀ k, k < (q ++ [x]).length → (L.set ((first + q.length) % 200) x).getD ((first + k) % 200) d0 = (q ++ [x]).getD k d0 := by
  intro k hk
  simp only [List.length_append, List.length_cons, List.length_nil] at hk
  rw [getD_set _ _ _ _ (by omega)]
  by_cases e : k = q.length
  · subst e; rw [if_pos rfl]; simp [List.getD_eq_getElem?_getD]
  · rw [if_neg (by omega), h k (by omega)]
    simp only [List.getD_eq_getElem?_getD]
    rw [List.getElem?_append_left (by omega)]
theorem q_pop {L : List Tx} {first : Nat} {q : List Tx} (x : Tx) (hl : L.length = 200) (hf : first < 200) (h0 : 0 < q.length) (hn : q.length ≤ 200) (h : ∀ k, k < q.length → L.getD ((first + k) % 200) d0 = q.getD k d0) :
    ∀ k, k < q.tail.length → (L.set first x).getD (((first + 1) % 200 + k) % 200) d0 = q.tail.getD k d0 := by
  intro k hk
  simp only [List.length_tail] at hk
  rw [getD_set _ _ _ _ (by omega), if_neg (by omega), show ((first + 1) % 200 + k) % 200 = (first + (k + 1)) % 200 from by omega, h _ (by omega)]
  simp [List.getD_eq_getElem?_getD]

/-- What a push leaves, and tells. -/
def pushed (q : List Tx) (x : Tx) : List Tx := if q.length < 200 then q ++ [x] else q
def roomy (q : List Tx) : Bool := decide (q.length < 200)

def PushPost (w : World) (b : Nat) (q : List Tx) (x : Tx) (e : Ending) (w' : World) : Prop :=
  e = .returned (.bool (roomy q)) ∧ WayQ w' b (pushed q x) ∧ Tch (fun k => k = b) w w'

set_option maxHeartbeats 400000 in
theorem push_any (b : Nat) (q : List Tx) (s : ByteArray) (odd : Bool) (w : World) (h : WayQ w b q) :
    Calls Try.prog 19 #[.pointer (some ⟨b, 0, none⟩), .agg #[.string s, .bool odd]] w (PushPost w b q (s, odd)) := by
  have hle := h.le
  by_cases hlt : q.length < 200
  · have hlb := h.lt
    obtain ⟨L, first, hr, hq⟩ := h
    have hm : (first + q.length) % 200 < 200 := Nat.mod_lt _ (by omega)
    have Fin : ∀ o : Obj, PushPost w b q (s, odd) (.returned (.bool true)) ((((w.setCell ⟨b, (first + q.length) % 200 * 2, none⟩ (.string s)).setCell ⟨b, (first + q.length) % 200 * 2 + 1, none⟩ (.bool odd)).setCell ⟨b, 401, none⟩ (.int .i64 ((q.length : Int) + 1))).alloc o).drew := by
      intro o
      refine ⟨by rw [roomy, decide_eq_true hlt], ?_, ?_⟩
      · rw [pushed, if_pos hlt]
        refine ⟨L.set ((first + q.length) % 200) (s, odd), first, ⟨?_, by simp [hr.len], hr.fl, by simp; omega⟩, q_push _ hr.len hlt hq⟩
        have h1 := heap_set_some (heap_set_some (heap_set_some hr.blk ((first + q.length) % 200 * 2) (.string s)) ((first + q.length) % 200 * 2 + 1) (.bool odd)) 401 (.int .i64 ((q.length : Int) + 1))
        rw [ringA_set _ _ _ _ (s, odd) (by rw [hr.len]; exact hm), show ((q.length : Int) + 1) = ((q.length + 1 : Nat) : Int) from by omega, ringA_n _ _ _ _ (by simp [hr.len])] at h1
        rw [show (q ++ [(s, odd)]).length = q.length + 1 from by simp]
        exact (heap_alloc_lt _ _ _ (heap_lt h1)).trans h1
      · exact (((((Tch.refl (fun k => k = b) w).setCell ⟨b, _, none⟩ (fun _ => rfl) _).setCell ⟨b, _, none⟩ (fun _ => rfl) _).setCell ⟨b, _, none⟩ (fun _ => rfl) _).alloc o).drew
    have FinH := Lib.hid Fin
    have hn := ring_n hr
    have hf := ring_first hr
    have hfl := hr.fl
    have hs := ring_s hr _ hm
    have ho := ring_o hr _ hm
    have f1 := fr_of hr.blk ((first + q.length) % 200 * 2)
    have f2 := fr_of hr.blk ((first + q.length) % 200 * 2 + 1)
    have f3 := fr_of hr.blk 401
    clear hr hq Fin
    go_enter Try.func19, Try.ntmps19
    go_wp2
    go_region
    all_goals go_wp2
    all_goals go_ret
    all_goals exact FinH.out _
  · have hq2 : q.length = 200 := by omega
    have hn := h.n
    rw [hq2] at hn
    have hlb := h.lt
    have Fin : ∀ o : Obj, PushPost w b q (s, odd) (.returned (.bool false)) (w.alloc o) := by
      intro o
      refine ⟨by rw [roomy, decide_eq_false hlt], ?_, (Tch.refl _ w).alloc o⟩
      rw [pushed, if_neg hlt]; exact h.tch ((Tch.refl (fun _ => False) w).alloc o) (fun e => e)
    have FinH := Lib.hid Fin
    clear h Fin hq2 hle hlt
    go_enter Try.func19, Try.ntmps19
    go_wp2
    go_ret
    exact FinH.out _

end Go.Proofs.Ytpecclcihefbaaa.NetA
