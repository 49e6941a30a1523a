/- tambourlaw18.NetApart: the acts, and what other ways leave alone. -/
import Derived.Test.YtpecclcihefbaaaNetI
import Derived.Test.YtpecclcihefbaaaNetS
import Derived.Test.YtpecclcihefbaaaRd
set_option linter.unusedVariables false
set_option linter.unusedSimpArgs false
namespace Go.Proofs.Ytpecclcihefbaaa.NetA
open Go.RowKit Go.Proofs.Ytpecclcihefbaaa.B Go.Proofs.Ytpecclcihefbaaa.Rd

structure Act where
  what : Int
  fr : Int
  too : Int
  ix : Int
  sp : Int
  text : ByteArray

def RAct : Rel Act := fun _ cs a => cs = [.int .i64 a.what, .int .i64 a.fr, .int .i64 a.too, .int .i64 a.ix, .int .i64 a.sp, .string a.text] ∧ a.text.size ≤ 140737488351232

theorem opens_act {H : Type} {enc : TypeId × Value → H} {w : World} : Opens enc Try.prog w 38 RAct := by
  intro fuel cs y h hw
  obtain ⟨hl, hf⟩ := struct_fields Try.underlying38 h hw
  have hl : cs.length = 6 := hl
  have hi : ∀ (j : Nat) (f : Field), (#[f] : Array Field)[0]? = some f → True := fun _ _ _ => trivial
  obtain ⟨a0, h0, _⟩ := hf Int 0 _ (RInt .i64) rfl (opens_int Try.underlying3)
  obtain ⟨a1, h1, _⟩ := hf Int 1 _ (RInt .i64) rfl (opens_int Try.underlying3)
  obtain ⟨a2, h2, _⟩ := hf Int 2 _ (RInt .i64) rfl (opens_int Try.underlying3)
  obtain ⟨a3, h3, _⟩ := hf Int 3 _ (RInt .i64) rfl (opens_int Try.underlying3)
  obtain ⟨a4, h4, _⟩ := hf Int 4 _ (RInt .i64) rfl (opens_int Try.underlying3)
  obtain ⟨a5, h5, h6⟩ := hf ByteArray 5 _ RStr rfl (opens_str Try.underlying9)
  refine ⟨⟨a0, a1, a2, a3, a4, a5⟩, ?_, h6⟩
  match cs, hl with
  | [c0, c1, c2, c3, c4, c5], _ =>
    have e0 : [c0] = [Value.int .i64 a0] := h0
    have e1 : [c1] = [Value.int .i64 a1] := h1
    have e2 : [c2] = [Value.int .i64 a2] := h2
    have e3 : [c3] = [Value.int .i64 a3] := h3
    have e4 : [c4] = [Value.int .i64 a4] := h4
    have e5 : [c5] = [Value.string a5] := h5
    simp only [List.cons.injEq, and_true] at e0 e1 e2 e3 e4 e5
    rw [e0, e1, e2, e3, e4, e5]

def Small (σ : Shape) (Q : Qs) : Prop := ∀ i j x, i < σ.n → j < σ.n → i ≠ j → x ∈ Q i j → x.1.size ≤ 140737488351232
/-- On the way from 0 to 1 is q; whatever is on others. -/
def La (σ : Shape) (w0 : World) (q : List Tx) (w : World) : Prop := ∃ Q, NetQ w σ Q ∧ Q 0 1 = q ∧ Below w0.heap.size w0 w ∧ Small σ Q

theorem Small.upd {σ : Shape} {Q : Qs} (h : Small σ Q) (i j : Nat) (q : List Tx) (hq : ∀ x ∈ q, x.1.size ≤ 140737488351232) : Small σ (upd Q i j q) := by
  intro k l x hk hl hn hx
  unfold NetA.upd at hx
  split at hx
  · exact hq x hx
  · exact h k l x hk hl hn hx

theorem la_set {σ : Shape} {w0 w w' : World} {q : List Tx} {Q : Qs} (t : Three σ w0) (hb : Below w0.heap.size w0 w) (hs : Small σ Q) (h01 : Q 0 1 = q) {i j : Nat} (hij : ¬ (i = 0 ∧ j = 1)) {q' : List Tx} (h : NetQ w' σ (upd Q i j q')) (hq' : ∀ x ∈ q', x.1.size ≤ 140737488351232) (ht : Tch σ.own w w') : La σ w0 q w' :=
  ⟨_, h, by rw [upd_other _ _ _ _ _ _ (by omega)]; exact h01, t.below hb ht, hs.upd i j q' hq'⟩

/-- What an act on another way leaves. -/
def Other (σ : Shape) (w0 : World) (q : List Tx) (w : World) (e : Ending) (w' : World) : Prop := (∃ v, e = .returned v) ∧ La σ w0 q w' ∧ Tch σ.own w w'

theorem other_same {σ : Shape} {w0 w w' : World} {q : List Tx} (t : Three σ w0) (h : La σ w0 q w) (ha : ∃ n, w' = w.drewN n) : La σ w0 q w' ∧ Tch σ.own w w' := by
  obtain ⟨n, rfl⟩ := ha
  obtain ⟨Q, h1, h2, h3, h4⟩ := h
  have ht : Tch σ.own w (w.drewN n) := (Tch.refl _ w).drewN n
  exact ⟨⟨Q, h1.tch ((Tch.refl (fun _ => False) w).drewN n) (fun e => e) (fun e => e) (fun _ _ e => e) (fun _ _ e => e), h2, t.below h3 ht, h4⟩, ht⟩

theorem there_nat {n : Nat} {i j : Int} (h : There n i j) : ∃ a b : Nat, i = a ∧ j = b ∧ a < n ∧ b < n ∧ a ≠ b := by
  obtain ⟨⟨a1, a2⟩, ⟨a3, a4⟩, a5⟩ := h
  obtain ⟨m, rfl⟩ := Int.eq_ofNat_of_zero_le a1
  obtain ⟨k, rfl⟩ := Int.eq_ofNat_of_zero_le a3
  exact ⟨m, k, rfl, rfl, by omega, by omega, by omega⟩

theorem mem_pushed {q : List Tx} {x : Tx} (hq : ∀ y ∈ q, y.1.size ≤ 140737488351232) (hx : x.1.size ≤ 140737488351232) : ∀ y ∈ pushed q x, y.1.size ≤ 140737488351232 := by
  intro y hy
  unfold pushed at hy
  split at hy
  · rcases List.mem_append.1 hy with h | h
    · exact hq y h
    · rw [List.mem_singleton.1 h]; exact hx
  · exact hq y hy

theorem oth_send {σ : Shape} {w0 w : World} {q : List Tx} (t : Three σ w0) (h : La σ w0 q w) (i j : Int) (s : ByteArray) (hs : s.size ≤ 140737488351232) (hij : ¬ (i = 0 ∧ j = 1)) :
    Calls Try.prog 8 #[.pointer (some ⟨σ.nb, 0, none⟩), .int .i64 i, .int .i64 j, .string s] w (Other σ w0 q w) := by
  by_cases ht : There σ.n i j
  · obtain ⟨a, b, rfl, rfl, ha, hb, hab⟩ := there_nat ht
    obtain ⟨Q, h1, h2, h3, h4⟩ := h
    refine (send_in a b s w σ Q h1 ha hb hab).mono ?_
    rintro e w' ⟨rfl, k1, k2⟩
    exact ⟨⟨_, rfl⟩, la_set t h3 h4 h2 (by omega) k1 (mem_pushed (fun y hy => h4 a b y ha hb hab hy) hs) k2, k2⟩
  · obtain ⟨Q, h1, h2, h3, h4⟩ := h
    refine (send_none i j s w σ Q h1 ht).mono ?_
    rintro e w' ⟨rfl, rfl⟩
    exact ⟨⟨_, rfl⟩, ⟨Q, h1, h2, h3, h4⟩, Tch.refl _ _⟩

theorem oth_take {σ : Shape} {w0 w : World} {q : List Tx} (t : Three σ w0) (h : La σ w0 q w) (i j : Int) (hij : ¬ (i = 0 ∧ j = 1)) :
    Calls Try.prog 13 #[.pointer (some ⟨σ.nb, 0, none⟩), .int .i64 i, .int .i64 j] w (Other σ w0 q w) := by
  have h' := h
  obtain ⟨Q, h1, h2, h3, h4⟩ := h
  by_cases hn : ¬ There σ.n i j ∨ (Q i.toNat j.toNat).length = 0
  · refine (take_no i j w σ Q h1 hn).mono ?_
    rintro e w' ⟨rfl, rfl⟩
    exact ⟨⟨_, rfl⟩, h', Tch.refl _ _⟩
  · rw [not_or, Classical.not_not] at hn
    obtain ⟨a, b, rfl, rfl, ha, hb, hab⟩ := there_nat hn.1
    have hq := hn.2
    simp only [Int.toNat_natCast] at hq
    cases e : Q a b with
    | nil => rw [e] at hq; exact absurd rfl hq
    | cons x r =>
      refine (take_in a b x r w σ Q h1 ha hb hab e).mono ?_
      rintro e' w' ⟨rfl, k1, k2⟩
      exact ⟨⟨_, rfl⟩, la_set t h3 h4 h2 (by omega) k1 (fun y hy => h4 a b y ha hb hab (by rw [e]; exact List.mem_cons_of_mem _ hy)) k2, k2⟩

theorem oth_turn {σ : Shape} {w0 w : World} {q : List Tx} (t : Three σ w0) (h : La σ w0 q w) (i j : Int) (hij : ¬ (i = 0 ∧ j = 1)) :
    Calls Try.prog 12 #[.pointer (some ⟨σ.nb, 0, none⟩), .int .i64 i, .int .i64 j] w (Other σ w0 q w) := by
  have h' := h
  obtain ⟨Q, h1, h2, h3, h4⟩ := h
  by_cases hn : ¬ There σ.n i j ∨ (Q i.toNat j.toNat).length = 0
  · refine (turn_no i j w σ Q h1 hn).mono ?_
    rintro e w' ⟨rfl, rfl⟩
    exact ⟨⟨_, rfl⟩, h', Tch.refl _ _⟩
  · rw [not_or, Classical.not_not] at hn
    obtain ⟨a, b, rfl, rfl, ha, hb, hab⟩ := there_nat hn.1
    have hq := hn.2
    simp only [Int.toNat_natCast] at hq
    cases e : Q a b with
    | nil => rw [e] at hq; exact absurd rfl hq
    | cons x r =>
      refine (turn_in a b x r w σ Q h1 ha hb hab e).mono ?_
      rintro e' w' ⟨rfl, k1, k2⟩
      have hm : ∀ y ∈ r ++ [x], y.1.size ≤ 140737488351232 := fun y hy => h4 a b y ha hb hab (by
        rw [e]
        rcases List.mem_append.1 hy with h | h
        · exact List.mem_cons_of_mem _ h
        · rw [List.mem_singleton.1 h]; exact List.mem_cons_self)
      exact ⟨⟨_, rfl⟩, la_set t h3 h4 h2 (by omega) k1 hm k2, k2⟩

theorem oth_double {σ : Shape} {w0 w : World} {q : List Tx} (t : Three σ w0) (h : La σ w0 q w) (i j : Int) (hij : ¬ (i = 0 ∧ j = 1)) :
    Calls Try.prog 9 #[.pointer (some ⟨σ.nb, 0, none⟩), .int .i64 i, .int .i64 j] w (Other σ w0 q w) := by
  have h' := h
  obtain ⟨Q, h1, h2, h3, h4⟩ := h
  by_cases hn : ¬ There σ.n i j ∨ (Q i.toNat j.toNat).length = 0
  · refine (double_no' i j w σ Q h1 hn).mono ?_
    rintro e w' ⟨rfl, ha⟩
    exact ⟨⟨_, rfl⟩, other_same t h' ha⟩
  · rw [not_or, Classical.not_not] at hn
    obtain ⟨a, b, rfl, rfl, ha, hb, hab⟩ := there_nat hn.1
    have hq := hn.2
    simp only [Int.toNat_natCast] at hq
    cases e : Q a b with
    | nil => rw [e] at hq; exact absurd rfl hq
    | cons x r =>
      refine (double_in a b x r w σ Q h1 ha hb hab e).mono ?_
      rintro e' w' ⟨rfl, k1, k2⟩
      exact ⟨⟨_, rfl⟩, la_set t h3 h4 h2 (by omega) k1 (mem_pushed (fun y hy => h4 a b y ha hb hab hy) (h4 a b x ha hb hab (by rw [e]; exact List.mem_cons_self))) k2, k2⟩

theorem spoilt_size (s : ByteArray) (a b : Int) : (spoilt s a b).size = s.size := by
  unfold spoilt
  rw [strOfNums_size, spInts, List.length_set, ints_length]

theorem oth_spoil {σ : Shape} {w0 w : World} {q : List Tx} (t : Three σ w0) (h : La σ w0 q w) (i j x y : Int) (hij : ¬ (i = 0 ∧ j = 1)) :
    Calls Try.prog 14 #[.pointer (some ⟨σ.nb, 0, none⟩), .int .i64 i, .int .i64 j, .int .i64 x, .int .i64 y] w (Other σ w0 q w) := by
  have h' := h
  obtain ⟨Q, h1, h2, h3, h4⟩ := h
  by_cases hn : ¬ There σ.n i j ∨ (Q i.toNat j.toNat).length = 0
  · refine (spoil_no i j x y w σ Q h1 hn).mono ?_
    rintro e w' ⟨rfl, ha⟩
    exact ⟨⟨_, rfl⟩, other_same t h' ha⟩
  · rw [not_or, Classical.not_not] at hn
    obtain ⟨a, b, rfl, rfl, ha, hb, hab⟩ := there_nat hn.1
    have hq := hn.2
    simp only [Int.toNat_natCast] at hq
    cases e : Q a b with
    | nil => rw [e] at hq; exact absurd rfl hq
    | cons c r =>
      by_cases hs : c.1.toList = [] ∨ c.2 = true
      · refine (spoil_skip a b x y c r w σ Q h1 ha hb hab e hs).mono ?_
        rintro e' w' ⟨rfl, hw⟩
        exact ⟨⟨_, rfl⟩, other_same t h' hw⟩
      · rw [not_or] at hs
        obtain ⟨s, o⟩ := c
        obtain rfl : o = false := by simpa using hs.2
        have hsz := h4 a b (s, false) ha hb hab (by rw [e]; exact List.mem_cons_self)
        refine (spoil_do a b x y s r w σ Q h1 ha hb hab e hs.1 hsz).mono ?_
        rintro e' w' ⟨rfl, k1, k2⟩
        have hm : ∀ z ∈ (spoilt s x y, true) :: r, z.1.size ≤ 140737488351232 := fun z hz => by
          rcases List.mem_cons.1 hz with h | h
          · rw [h]; simp only [spoilt_size]; exact hsz
          · exact h4 a b z ha hb hab (by rw [e]; exact List.mem_cons_of_mem _ h)
        exact ⟨⟨_, rfl⟩, la_set t h3 h4 h2 (by omega) k1 hm k2, k2⟩

theorem la_send01 {σ : Shape} {w0 w : World} {q : List Tx} (t : Three σ w0) (h : La σ w0 q w) (s : ByteArray) (hs : s.size ≤ 140737488351232) (hl : q.length < 200) :
    Calls Try.prog 8 #[.pointer (some ⟨σ.nb, 0, none⟩), .int .i64 0, .int .i64 1, .string s] w fun e w' => e = .returned (.bool true) ∧ La σ w0 (q ++ [(s, false)]) w' ∧ Tch σ.own w w' := by
  obtain ⟨Q, h1, h2, h3, h4⟩ := h
  have hn := t.n
  refine (show Calls Try.prog 8 #[.pointer (some ⟨σ.nb, 0, none⟩), .int .i64 0, .int .i64 1, .string s] w (SendPost σ Q 0 1 (q ++ [(s, false)]) w) from send_room 0 1 s w σ Q h1 (by omega) (by omega) (by omega) q h2 hl).mono ?_
  rintro e w' ⟨rfl, k1, k2⟩
  refine ⟨rfl, ⟨_, k1, upd_same _ _ _ _, t.below h3 k2, h4.upd 0 1 _ fun y hy => ?_⟩, k2⟩
  rcases List.mem_append.1 hy with h | h
  · exact h4 0 1 y (by omega) (by omega) (by omega) (by rw [h2]; exact h)
  · rw [List.mem_singleton.1 h]; exact hs
theorem la_take01 {σ : Shape} {w0 w : World} {x : Tx} {r : List Tx} (t : Three σ w0) (h : La σ w0 (x :: r) w) :
    Calls Try.prog 13 #[.pointer (some ⟨σ.nb, 0, none⟩), .int .i64 0, .int .i64 1] w fun e w' => e = .returned (.tuple #[.string x.1, .bool true]) ∧ La σ w0 r w' := by
  obtain ⟨Q, h1, h2, h3, h4⟩ := h
  have hn := t.n
  refine (show Calls Try.prog 13 #[.pointer (some ⟨σ.nb, 0, none⟩), .int .i64 0, .int .i64 1] w _ from take_in 0 1 x r w σ Q h1 (by omega) (by omega) (by omega) h2).mono ?_
  rintro e w' ⟨rfl, k1, k2⟩
  exact ⟨rfl, _, k1, upd_same _ _ _ _, t.below h3 k2, h4.upd 0 1 _ fun y hy => h4 0 1 y (by omega) (by omega) (by omega) (by rw [h2]; exact List.mem_cons_of_mem _ hy)⟩
theorem la_len01 {σ : Shape} {w0 w : World} {q : List Tx} (t : Three σ w0) (h : La σ w0 q w) :
    Calls Try.prog 10 #[.pointer (some ⟨σ.nb, 0, none⟩), .int .i64 0, .int .i64 1] w fun e w' => e = .returned (.int .i64 q.length) ∧ w = w' := by
  obtain ⟨Q, h1, h2, h3, h4⟩ := h
  have hn := t.n
  have := len_in 0 1 w σ Q h1 (by omega) (by omega) (by omega)
  rw [h2] at this; exact this

end Go.Proofs.Ytpecclcihefbaaa.NetA
