/- What LawWireReads, LawWireWrites, LawWireSpoilt lean on, part v of 25: the texts WiE, WiU, WiP, WiS. -/
import Derived.Test.YtbefkoljcacpcaaGreatDoorTVe
import Derived.Test.YtbefkoljcacpcaaGreatDoorTVj
import Derived.Test.YtbefkoljcacpcaaGreatDoorTVu
set_option linter.unusedVariables false
set_option linter.unusedSimpArgs false
namespace Go.Proofs.YtbefkoljcacpcaaGreatDoor.Tm
open Go Go.RowKit Go.Proofs.YtbefkoljcacpcaaGreatDoorW.PrintWords Go.Proofs.YtbefkoljcacpcaaGreatDoor.B
def F.text : F → List UInt8
  | .mk _ t _ => t
def F.list : F → Bool
  | .mk b _ _ => b
def F.items : F → List F
  | .mk _ _ l => l
theorem FKs.get {ok : Nat → Prop} {w : World} {A : Option Addr} : ∀ (l : List F) (i : Nat), FKs ok w A i l → ∀ k f, l[k]? = some f → ∃ b o c0 c1 c2, A = some ⟨b, o, none⟩ ∧ ok b ∧ w.cell? ⟨b, o + (i + k) * 3, none⟩ = some c0 ∧ w.cell? ⟨b, o + (i + k) * 3 + 1, none⟩ = some c1 ∧ w.cell? ⟨b, o + (i + k) * 3 + 2, none⟩ = some c2 ∧ FK ok w f [c0, c1, c2]
  | [], _, _, k, f, hk => by cases k <;> cases hk
  | g :: l, i, h, k, f, hk => by
    unfold FKs at h
    cases k with
    | zero =>
      cases hk
      exact h.1
    | succ k =>
      obtain ⟨b, o, c0, c1, c2, r⟩ := FKs.get l (i + 1) h.2 k f hk
      rw [show i + 1 + k = i + (k + 1) from by omega] at r
      exact ⟨b, o, c0, c1, c2, r⟩
theorem FKs.base {ok : Nat → Prop} {w : World} {A : Option Addr} {l : List F} (h : FKs ok w A 0 l) (h0 : 0 < l.length) : ∃ b o, A = some ⟨b, o, none⟩ ∧ ok b := by
  obtain ⟨b, o, _, _, _, h1, h2, _⟩ := FKs.get l 0 h 0 _ (List.getElem?_eq_getElem h0)
  exact ⟨b, o, h1, h2⟩
theorem smalls_get : ∀ {l : List F} {k : Nat} {f : F}, smalls l = true → l[k]? = some f → f.small = true
  | [], k, f, _, hk => by cases k <;> cases hk
  | g :: l, k, f, h, hk => by
    rw [smalls, Bool.and_eq_true] at h
    cases k with
    | zero => cases hk; exact h.1
    | succ k => exact smalls_get h.2 hk
theorem FKs.at' {ok : Nat → Prop} {w : World} {b o : Nat} {l : List F} (h : FKs ok w (some ⟨b, o, none⟩) 0 l) (hs : smalls l = true) (k : Nat) (hk : k < l.length) :
    ∃ fb ft fl A c, l[k]? = some (.mk fb ft fl) ∧ ft.length ≤ 65536 ∧ fl.length ≤ 65536 ∧ smalls fl = true ∧ w.cell? ⟨b, o + k * 3, none⟩ = some (.bool fb) ∧ w.cell? ⟨b, o + k * 3 + 1, none⟩ = some (.string ⟨ft.toArray⟩) ∧ w.cell? ⟨b, o + k * 3 + 2, none⟩ = some (.slice A fl.length c) ∧ fl.length ≤ c ∧ FKs ok w A 0 fl := by
  have hk' := List.getElem?_eq_getElem hk
  obtain ⟨b', o', c0, c1, c2, h1, _, h3, h4, h5, h6⟩ := FKs.get l 0 h k _ hk'
  have hsm := smalls_get hs hk'
  generalize l[k] = f at *
  obtain ⟨fb, ft, fl⟩ := f
  unfold FK at h6
  obtain ⟨A, c, e1, e2, _, e4⟩ := h6
  simp only [List.cons.injEq, and_true] at e1
  obtain ⟨rfl, rfl, rfl⟩ := e1
  cases h1
  rw [F.small, Bool.and_eq_true, Bool.and_eq_true, decide_eq_true_eq, decide_eq_true_eq] at hsm
  rw [Nat.zero_add] at h3 h4 h5
  exact ⟨fb, ft, fl, A, c, hk', hsm.1.1, hsm.1.2, hsm.2, h3, h4, h5, e2, e4⟩
def StrRow (base : Nat) (W : World) (v : Value) (l : List ByteArray) : Prop := W.ownsRow base 9 1 v l.length (l.map fun s => .string s)
theorem StrRow.nil (base : Nat) (W : World) : StrRow base W (.slice none 0 0) [] := ⟨rfl, .inl ⟨rfl, rfl⟩⟩
theorem StrRow.lt {base : Nat} {W : World} {v : Value} {l : List ByteArray} (h : StrRow base W v l) (k : Nat) (hk : v.ownBlock = some k) : base ≤ k ∧ k < W.heap.size := by
  have := World.ownsRow.lt h k hk
  exact ⟨this.1, this.2⟩
theorem StrRow.keep {base : Nat} {W W' : World} {v : Value} {l : List ByteArray} (h : StrRow base W v l) (hk : ∀ b, base ≤ b → b < W.heap.size → W'.heap[b]? = W.heap[b]?) : StrRow base W' v l := by
  have hlt := h.lt
  obtain ⟨k1, k2⟩ := h
  refine ⟨k1, ?_⟩
  rcases k2 with k2 | ⟨g, cap, cur, e1, e2, e3, e4⟩
  · exact .inl k2
  · have := hlt g (by rw [e1]; rfl)
    exact .inr ⟨g, cap, cur, e1, e2, (hk g e2 this.2).trans e3, e4⟩
theorem StrRow.read {base : Nat} {W : World} {v : Value} {l : List ByteArray} (h : StrRow base W v l) : ∃ A c, v = .slice A l.length c ∧ l.length ≤ c ∧ Kd.C Kd.string W A l.length l ∧ ∀ a, A = some a → base ≤ a.block := by
  obtain ⟨k1, k2⟩ := h
  rcases k2 with ⟨rfl, h0⟩ | ⟨g, cap, cur, rfl, e2, e3, e4, e5, e6, e7⟩
  · obtain rfl : l = [] := List.eq_nil_of_length_eq_zero h0
    refine ⟨none, 0, rfl, Nat.le_refl _, ⟨rfl, by simp, fun h => absurd h (by simp)⟩, fun a ha => (by cases ha)⟩
  · refine ⟨some ⟨g, 0, none⟩, cap, rfl, e4, ⟨rfl, by simp only [maxLen] at e5; omega, fun _ => ⟨_, rfl, fun j p hj => ⟨[.string p], rfl, rfl, fun i u hu => ?_⟩⟩⟩, fun a ha => by cases ha; exact e2⟩
    have hjl := (List.getElem?_eq_some_iff.1 hj).1
    cases i with
    | succ i => cases i <;> cases hu
    | zero =>
      cases hu
      show W.cell? (Addr.add ⟨g, 0, none⟩ (j * 1 + 0)) = _
      rw [Wi.add_off, Nat.mul_one, Nat.add_zero, Nat.zero_add, cell_of e3]
      have : (l.map fun s => Value.string s)[j]? = some (.string p) := by rw [List.getElem?_map, hj]; rfl
      rw [← e7, List.getElem?_take, if_pos (by omega), Array.getElem?_toList] at this
      exact this
theorem add_block (a : Addr) (k : Nat) : (a.add k).block = a.block := by unfold Addr.add; split <;> rfl
theorem strs_move {w w' : World} {A : Option Addr} {n : Nat} {l : List ByteArray} (h : Kd.C Kd.string w A n l) (hm : ∀ a, A = some a → w'.heap[a.block]? = w.heap[a.block]?) : Kd.C Kd.string w' A n l := by
  obtain ⟨h1, h2, h3⟩ := h
  refine ⟨h1, h2, fun hn => ?_⟩
  obtain ⟨ad, e, hc⟩ := h3 hn
  refine ⟨ad, e, fun j p hj => ?_⟩
  obtain ⟨c, hs, hr, hcell⟩ := hc j p hj
  exact ⟨c, hs, hr, fun i u hu => (World.cell?_of_block (by rw [add_block]; exact hm ad e)).trans (hcell i u hu)⟩
theorem infoS : ∃ i, Tryz.prog.info? 9 = some i ∧ i.zero = some (.string ⟨#[]⟩) ∧ i.size = 1 ∧ i.bytes = 16 := by
  have h : (Tryz.prog.info? 9).map (fun i => (i.zero, i.size, i.bytes)) = some (some (.string ⟨#[]⟩), 1, 16) := by kernel_rfl
  match hi : Tryz.prog.info? 9, h with
  | some i, h =>
    simp only [Option.map_some, Option.some.injEq, Prod.mk.injEq] at h
    exact ⟨i, rfl, h.1, h.2.1, h.2.2⟩
theorem str_app {ops : Array Oper} {rest : List Oper} {o : Oper} {a : Act} {Q : Exit → Act → World → Prop} {base : Nat} {w : World} {v : Value} {l : List ByteArray} {x : ByteArray} (hgd : o.guard = none) (s y : Operand) (t : TypeId)
    (ho : o.op = .call { callee := .builtin .append, args := #[s, y], argTypes := #[t, t] }) (ht : Tryz.prog.underlying t = some (.slice 9))
    (hs : a.eval s = v) (n c : Nat) (hx : a.eval y = .slice (some ⟨w.heap.size, 0, none⟩) 1 c) (hrow : StrRow base w v l) (hn : l.length = n) (hb : n ≤ 1000000) (hbase : base ≤ w.heap.size)
    (h : ∀ g cap w', StrRow base w' (.slice (some ⟨g, 0, none⟩) (n + 1) cap) (l ++ [x]) → Grew v w w' → wpList Tryz.prog ops Q rest (a.put o.dst (.slice (some ⟨g, 0, none⟩) (n + 1) cap)) w') :
    wpList Tryz.prog ops Q (o :: rest) a (w.alloc (.cells #[.string x] 9)) := by
  subst hn
  obtain ⟨iF, hiF, hzF, hsF, hbF⟩ := infoS
  have hown := hrow
  unfold StrRow at hown
  refine wpList_append_lies _ hgd s y t ho base 9 iF _ 1 16 ht hiF hzF hsF hbF rfl (by omega) v l.length _ hs (hown.alloc _) ⟨w.heap.size, 0, none⟩ 1 c [.string x] hx rfl (World.news_of_block (heap_alloc_at w _)) (fun u hu => by rw [List.mem_singleton] at hu; subst hu; rfl) (by omega) (by unfold maxLen; omega) (by omega) (by simp; omega) (w.heap.size + 1) (by simp) ?_
  intro g cap w' hown' hgrow hat hlt
  have hsz := hgrow.size
  rw [size_alloc] at hsz
  refine h g cap w' ?_ ⟨by omega, hgrow.os, hgrow.tape, hgrow.output, fun k h1 h2 => (hgrow.block k (by rw [size_alloc]; omega) h2).trans (heap_alloc_lt w _ _ h1)⟩
  unfold StrRow
  rw [List.map_append, List.length_append]
  exact hown'
end Go.Proofs.YtbefkoljcacpcaaGreatDoor.Tm
namespace Go.Proofs.YtbefkoljcacpcaaGreatDoor.Wi
open Go Go.RowKit Go.Proofs.YtbefkoljcacpcaaGreatDoorW.PrintWords Go.Proofs.YtbefkoljcacpcaaGreatDoor.B Go.Proofs.YtbefkoljcacpcaaGreatDoor.Tm
theorem wright_lim {v : List Int} {l : List ByteArray} {p : ByteArray} (h : wright v l p = true) (k : Nat) (hk : k < 6) : 0 ≤ v.getD k 0 ∧ v.getD k 0 ≤ lim k := by
  unfold wright numsOk at h
  simp only [Bool.and_eq_true] at h
  have := List.all_eq_true.1 h.1 k (List.mem_range.2 hk)
  unfold numOk at this
  simp only [Bool.and_eq_true, decide_eq_true_eq] at this
  omega
def textsOf (l : List F) : List ByteArray := l.map fun f => ⟨f.text.toArray⟩
theorem textsOf_lhave (l : List ByteArray) : textsOf (lhave l) = l := by
  unfold textsOf lhave
  rw [List.map_map]
  conv => rhs; rw [← List.map_id l]
  exact List.map_congr_left fun s _ => by
    show (⟨(F.text (txt s.data.toList)).toArray⟩ : ByteArray) = s
    unfold txt F.text
    simp
theorem textsOf_len (l : List F) : (textsOf l).length = l.length := by unfold textsOf; rw [List.length_map]
theorem textsOf_small {l : List F} (h : smalls l = true) : ∀ x ∈ textsOf l, x.size ≤ 65536 := by
  intro x hx
  unfold textsOf at hx
  obtain ⟨f, hf, rfl⟩ := List.mem_map.1 hx
  obtain ⟨k, hk, rfl⟩ := List.getElem_of_mem hf
  have := smalls_get h (List.getElem?_eq_getElem hk)
  generalize l[k] = f at this
  obtain ⟨fb, ft, fl⟩ := f
  rw [F.small, Bool.and_eq_true, Bool.and_eq_true, decide_eq_true_eq, decide_eq_true_eq] at this
  show ft.toArray.size ≤ 65536
  rw [List.size_toArray]
  exact this.1.1
theorem textsOf_take (l : List F) (k : Nat) (fb : Bool) (ft : List UInt8) (fl : List F) (h : l[k]? = some (.mk fb ft fl)) : textsOf (l.take (k + 1)) = textsOf (l.take k) ++ [⟨ft.toArray⟩] := by
  unfold textsOf
  rw [List.take_add_one, h, List.map_append]
  rfl
theorem lfull_num {v : List Int} (l : List ByteArray) (p : ByteArray) (hv : v.length = 6) (k : Nat) (hk : k < 6) : (lfull v l p)[k]? = some (txt (Lib.itoa (v.getD k 0))) := by
  unfold lfull lbody lnums
  rw [List.append_assoc, List.getElem?_append_left (by rw [List.length_map]; omega), List.getElem?_map, List.getElem?_eq_getElem (by omega), List.getD_eq_getElem?_getD, List.getElem?_eq_getElem (by omega)]
  rfl
theorem lfull_have {v : List Int} (l : List ByteArray) (p : ByteArray) (hv : v.length = 6) : (lfull v l p)[6]? = some (lst (lhave l)) := by
  unfold lfull lbody lnums
  rw [List.append_assoc, List.getElem?_append_right (by rw [List.length_map]; omega), List.length_map, hv]
  rfl
theorem lfull_patch {v : List Int} (l : List ByteArray) (p : ByteArray) (hv : v.length = 6) : (lfull v l p)[7]? = some (txt p.data.toList) := by
  unfold lfull lbody lnums
  rw [List.append_assoc, List.getElem?_append_right (by rw [List.length_map]; omega), List.length_map, hv]
  rfl
theorem lfull_length {v : List Int} (l : List ByteArray) (p : ByteArray) (hv : v.length = 6) : (lfull v l p).length = 9 := by
  unfold lfull lbody lnums
  simp [hv]
theorem set8 {W : World} {b : Nat} {y0 y1 y2 y3 y4 y5 y6 y7 : Value} {t : TypeId} (h : W.heap[b]? = some (.cells #[y0, y1, y2, y3, y4, y5, y6, y7] t (0, 0))) (x0 x1 x2 x3 x4 x5 x6 x7 : Value) :
    ((((((((W.setCell ⟨b, 0, none⟩ x0).setCell ⟨b, 1, none⟩ x1).setCell ⟨b, 2, none⟩ x2).setCell ⟨b, 3, none⟩ x3).setCell ⟨b, 4, none⟩ x4).setCell ⟨b, 5, none⟩ x5).setCell ⟨b, 6, none⟩ x6).setCell ⟨b, 7, none⟩ x7).heap[b]? = some (.cells #[x0, x1, x2, x3, x4, x5, x6, x7] t (0, 0)) := by
  have h0 : (W.setCell ⟨b, 0, none⟩ x0).heap[b]? = some (.cells #[x0, y1, y2, y3, y4, y5, y6, y7] t (0, 0)) := heap_set _ b 0 x0 _ t _ h
  have h1 : ((W.setCell ⟨b, 0, none⟩ x0).setCell ⟨b, 1, none⟩ x1).heap[b]? = some (.cells #[x0, x1, y2, y3, y4, y5, y6, y7] t (0, 0)) := heap_set _ b 1 x1 _ t _ h0
  have h2 : (((W.setCell ⟨b, 0, none⟩ x0).setCell ⟨b, 1, none⟩ x1).setCell ⟨b, 2, none⟩ x2).heap[b]? = some (.cells #[x0, x1, x2, y3, y4, y5, y6, y7] t (0, 0)) := heap_set _ b 2 x2 _ t _ h1
  have h3 : ((((W.setCell ⟨b, 0, none⟩ x0).setCell ⟨b, 1, none⟩ x1).setCell ⟨b, 2, none⟩ x2).setCell ⟨b, 3, none⟩ x3).heap[b]? = some (.cells #[x0, x1, x2, x3, y4, y5, y6, y7] t (0, 0)) := heap_set _ b 3 x3 _ t _ h2
  have h4 : (((((W.setCell ⟨b, 0, none⟩ x0).setCell ⟨b, 1, none⟩ x1).setCell ⟨b, 2, none⟩ x2).setCell ⟨b, 3, none⟩ x3).setCell ⟨b, 4, none⟩ x4).heap[b]? = some (.cells #[x0, x1, x2, x3, x4, y5, y6, y7] t (0, 0)) := heap_set _ b 4 x4 _ t _ h3
  have h5 : ((((((W.setCell ⟨b, 0, none⟩ x0).setCell ⟨b, 1, none⟩ x1).setCell ⟨b, 2, none⟩ x2).setCell ⟨b, 3, none⟩ x3).setCell ⟨b, 4, none⟩ x4).setCell ⟨b, 5, none⟩ x5).heap[b]? = some (.cells #[x0, x1, x2, x3, x4, x5, y6, y7] t (0, 0)) := heap_set _ b 5 x5 _ t _ h4
  have h6 : (((((((W.setCell ⟨b, 0, none⟩ x0).setCell ⟨b, 1, none⟩ x1).setCell ⟨b, 2, none⟩ x2).setCell ⟨b, 3, none⟩ x3).setCell ⟨b, 4, none⟩ x4).setCell ⟨b, 5, none⟩ x5).setCell ⟨b, 6, none⟩ x6).heap[b]? = some (.cells #[x0, x1, x2, x3, x4, x5, x6, y7] t (0, 0)) := heap_set _ b 6 x6 _ t _ h5
  have h7 : ((((((((W.setCell ⟨b, 0, none⟩ x0).setCell ⟨b, 1, none⟩ x1).setCell ⟨b, 2, none⟩ x2).setCell ⟨b, 3, none⟩ x3).setCell ⟨b, 4, none⟩ x4).setCell ⟨b, 5, none⟩ x5).setCell ⟨b, 6, none⟩ x6).setCell ⟨b, 7, none⟩ x7).heap[b]? = some (.cells #[x0, x1, x2, x3, x4, x5, x6, x7] t (0, 0)) := heap_set _ b 7 x7 _ t _ h6
  exact h7
theorem set8_ne {W : World} {b k : Nat} (h : k ≠ b) (x0 x1 x2 x3 x4 x5 x6 x7 : Value) :
    ((((((((W.setCell ⟨b, 0, none⟩ x0).setCell ⟨b, 1, none⟩ x1).setCell ⟨b, 2, none⟩ x2).setCell ⟨b, 3, none⟩ x3).setCell ⟨b, 4, none⟩ x4).setCell ⟨b, 5, none⟩ x5).setCell ⟨b, 6, none⟩ x6).setCell ⟨b, 7, none⟩ x7).heap[k]? = W.heap[k]? := by
  rw [heap_set_ne _ _ _ _ h, heap_set_ne _ _ _ _ h, heap_set_ne _ _ _ _ h, heap_set_ne _ _ _ _ h, heap_set_ne _ _ _ _ h, heap_set_ne _ _ _ _ h, heap_set_ne _ _ _ _ h, heap_set_ne _ _ _ _ h]
theorem below_set8 {B : Nat} {w W : World} {b : Nat} (h : Below B w W) (hb : B ≤ b) (x0 x1 x2 x3 x4 x5 x6 x7 : Value) :
    Below B w ((((((((W.setCell ⟨b, 0, none⟩ x0).setCell ⟨b, 1, none⟩ x1).setCell ⟨b, 2, none⟩ x2).setCell ⟨b, 3, none⟩ x3).setCell ⟨b, 4, none⟩ x4).setCell ⟨b, 5, none⟩ x5).setCell ⟨b, 6, none⟩ x6).setCell ⟨b, 7, none⟩ x7) :=
  (((((((h.setCell hb _).setCell hb _).setCell hb _).setCell hb _).setCell hb _).setCell hb _).setCell hb _).setCell hb _
def letArr (vs : List Int) (v : Value) (p : ByteArray) : Array Value := #[.int .i64 (vs.getD 0 0), .int .i64 (vs.getD 1 0), .int .i64 (vs.getD 2 0), .int .i64 (vs.getD 3 0), .int .i64 (vs.getD 4 0), .int .i64 (vs.getD 5 0), v, .string p]
theorem six {P : Nat → Prop} {k : Nat} (hk : k < 6) (h0 : P 0) (h1 : P 1) (h2 : P 2) (h3 : P 3) (h4 : P 4) (h5 : P 5) : P k := by
  have : k = 0 ∨ k = 1 ∨ k = 2 ∨ k = 3 ∨ k = 4 ∨ k = 5 := by omega
  rcases this with rfl | rfl | rfl | rfl | rfl | rfl <;> assumption
theorem letArr_set {vs : List Int} (hv : vs.length = 6) (v : Value) (p : ByteArray) (k : Nat) (hk : k < 6) (x : Int) : (letArr vs v p).setIfInBounds k (.int .i64 x) = letArr (vs.set k x) v p := by
  match vs, hv with
  | [a, b, c, d, e, f], _ => exact six (P := fun k => (letArr [a, b, c, d, e, f] v p).setIfInBounds k (.int .i64 x) = letArr (List.set [a, b, c, d, e, f] k x) v p) hk rfl rfl rfl rfl rfl rfl
theorem letArr_get (vs : List Int) (v : Value) (p : ByteArray) (k : Nat) (hk : k < 6) : (letArr vs v p)[k]? = some (.int .i64 (vs.getD k 0)) :=
  six (P := fun k => (letArr vs v p)[k]? = some (.int .i64 (vs.getD k 0))) hk rfl rfl rfl rfl rfl rfl
theorem take_set (vs : List Int) (k : Nat) (x : Int) (hk : k < vs.length) : (vs.set k x).take (k + 1) = vs.take k ++ [x] := by
  rw [List.take_add_one, List.getElem?_set_self hk, List.take_set_of_le (Nat.le_refl _)]
  rfl
theorem take_next (vs : List Int) (k : Nat) (hk : k < vs.length) : vs.take (k + 1) = vs.take k ++ [vs.getD k 0] := by
  rw [List.take_add_one, List.getD_eq_getElem?_getD, List.getElem?_eq_getElem hk]
  rfl
theorem lim_max (k : Nat) (h : k < 6) : 0 ≤ lim k ∧ lim k ≤ 2147483647 :=
  six (P := fun k => 0 ≤ lim k ∧ lim k ≤ 2147483647) h (by decide) (by decide) (by decide) (by decide) (by decide) (by decide)
theorem let_facts {W : World} {b : Nat} {y0 y1 y2 y3 y4 y5 y6 y7 : Value} {t : TypeId} (h : W.heap[b]? = some (.cells #[y0, y1, y2, y3, y4, y5, y6, y7] t (0, 0))) :
    W.cell? ⟨b, 0, none⟩ = some y0 ∧ W.cell? ⟨b, 1, none⟩ = some y1 ∧ W.cell? ⟨b, 2, none⟩ = some y2 ∧ W.cell? ⟨b, 3, none⟩ = some y3 ∧ W.cell? ⟨b, 4, none⟩ = some y4 ∧ W.cell? ⟨b, 5, none⟩ = some y5 ∧ W.cell? ⟨b, 6, none⟩ = some y6 ∧ W.cell? ⟨b, 7, none⟩ = some y7 ∧ W.shape? b = some (t, 8) ∧ ∀ i, W.frozen? ⟨b, i, none⟩ = false :=
  ⟨by rw [cell_of h]; rfl, by rw [cell_of h]; rfl, by rw [cell_of h]; rfl, by rw [cell_of h]; rfl, by rw [cell_of h]; rfl, by rw [cell_of h]; rfl, by rw [cell_of h]; rfl, by rw [cell_of h]; rfl, by simp [World.shape?, h], fr_of h⟩
end Go.Proofs.YtbefkoljcacpcaaGreatDoor.Wi
set_option linter.unusedVariables false
set_option linter.unusedSimpArgs false
namespace Go.Proofs.YtbefkoljcacpcaaGreatDoor.Wi
open Go Go.RowKit Go.Proofs.YtbefkoljcacpcaaGreatDoorW.PrintWords Go.Proofs.YtbefkoljcacpcaaGreatDoor.B Go.Proofs.YtbefkoljcacpcaaGreatDoor.Tm
theorem txt_inj {a b : List UInt8} (h : txt a = txt b) : a = b := by
  unfold txt at h
  cases h
  rfl
theorem lst_inj {a b : List F} (h : lst a = lst b) : a = b := by
  unfold lst at h
  cases h
  rfl
theorem itoa_same {a b : Int} (ha : 0 ≤ a) (hb : 0 ≤ b) (h : Lib.itoa a = Lib.itoa b) : a = b := by
  obtain ⟨m, rfl⟩ : ∃ m : Nat, a = (m : Int) := ⟨a.toNat, by omega⟩
  obtain ⟨n, rfl⟩ : ∃ n : Nat, b = (n : Int) := ⟨b.toNat, by omega⟩
  rw [Lib.itoa_nonneg, Lib.itoa_nonneg] at h
  rw [dec_inj h]
theorem lbytes_inj {v v' : List Int} {l l' : List ByteArray} {p p' : ByteArray} (hv : v.length = 6) (hv' : v'.length = 6) (h : wright v l p = true) (h' : wright v' l' p' = true) (e : lbytes v l p = lbytes v' l' p') : v = v' ∧ l = l' ∧ p = p' := by
  have hf : lfull v l p = lfull v' l' p' := by
    refine lst_inj (F.uniq _ _ [] [] (lfull_right v l p) (lfull_right v' l' p') ?_).1
    rw [List.append_nil, List.append_nil]
    exact e
  refine ⟨?_, ?_, ?_⟩
  · refine List.ext_getElem (by omega) fun k h1 h2 => ?_
    have e1 := lfull_num l p hv k (by omega)
    have e2 := lfull_num l' p' hv' k (by omega)
    rw [hf, e2] at e1
    have := itoa_same (wright_nums h' k (by omega)).1 (wright_nums h k (by omega)).1 (txt_inj (Option.some.inj e1))
    rw [List.getD_eq_getElem?_getD, List.getD_eq_getElem?_getD, List.getElem?_eq_getElem h1, List.getElem?_eq_getElem h2] at this
    exact this.symm
  · have e1 := lfull_have l p hv
    rw [hf, lfull_have l' p' hv'] at e1
    have := lst_inj (Option.some.inj e1)
    rw [← textsOf_lhave l, ← textsOf_lhave l', this]
  · have e1 := lfull_patch l p hv
    rw [hf, lfull_patch l' p' hv'] at e1
    have := txt_inj (Option.some.inj e1)
    exact ByteArray.ext (Array.ext' this.symm)
theorem txt_said (t : List UInt8) : (txt t).bytes = Lib.decDigits t.length ++ 58 :: t := by
  unfold txt
  rw [txt_bytes]
theorem lst_said (l : List F) : (lst l).bytes = 40 :: (bytess l ++ [41]) := by
  unfold lst
  rw [lst_bytes]
theorem lbytes_split (v : List Int) (l : List ByteArray) (p : ByteArray) : lbytes v l p = (40 :: bytess (lbody v l p) ++ [51, 50, 58]) ++ ((dg (lst (lbody v l p)).bytes).data.toList ++ [41]) := by
  have hd : (dg (lst (lbody v l p)).bytes).data.toList.length = 32 := by rw [toList_size, dg_size]
  unfold lbytes
  rw [lst_said]
  unfold lfull
  generalize (dg (lst (lbody v l p)).bytes).data.toList = D at *
  rw [bytess_append, bytess, bytess, txt_said, hd, show Lib.decDigits 32 = [51, 50] from by rw [Lib.decDigits, Lib.decDigits]; rfl]
  simp
theorem dg_list {a b : List UInt8} (h : (dg a).data.toList = (dg b).data.toList) : dg a = dg b := ByteArray.ext (Array.ext' h)
theorem spoilt_dg {v v' : List Int} {l l' : List ByteArray} {p p' : ByteArray} {i : Nat} {x : UInt8} (h : lbytes v' l' p' = (lbytes v l p).set i x) :
    dg (lst (lbody v l p)).bytes = dg (lst (lbody v' l' p')).bytes := by
  have d1 : (dg (lst (lbody v l p)).bytes).data.toList.length = 32 := by rw [toList_size, dg_size]
  have d2 : (dg (lst (lbody v' l' p')).bytes).data.toList.length = 32 := by rw [toList_size, dg_size]
  have hl := congrArg List.length h
  rw [List.length_set] at hl
  rw [lbytes_split, lbytes_split] at h hl
  obtain ⟨P, hP⟩ : ∃ P, P = 40 :: bytess (lbody v l p) ++ [51, 50, 58] := ⟨_, rfl⟩
  obtain ⟨P', hP'⟩ : ∃ P, P = 40 :: bytess (lbody v' l' p') ++ [51, 50, 58] := ⟨_, rfl⟩
  rw [← hP, ← hP'] at h hl
  have hlen : P'.length = P.length := by
    simp only [List.length_append, d1, d2] at hl
    omega
  rw [List.set_append] at h
  split at h
  · obtain ⟨_, h2⟩ := List.append_inj h (by rw [List.length_set]; exact hlen)
    exact dg_list (List.append_cancel_right h2).symm
  · obtain ⟨h1, _⟩ := List.append_inj h hlen
    rw [hP, hP'] at h1
    have hb := List.append_cancel_right h1
    rw [lst_said, lst_said, (List.cons.inj hb).2]
end Go.Proofs.YtbefkoljcacpcaaGreatDoor.Wi
set_option linter.unusedVariables false
set_option linter.unusedSimpArgs false
namespace Go.Proofs.YtbefkoljcacpcaaGreatDoor.Wi
open Go Go.RowKit Go.Proofs.YtbefkoljcacpcaaGreatDoorW.PrintWords Go.Proofs.YtbefkoljcacpcaaGreatDoor.B Go.Proofs.YtbefkoljcacpcaaGreatDoor.Tm
def ParsePost (s : ByteArray) (w : World) (ev : Ending) (w' : World) : Prop :=
  ∃ v0 v1 v2 v3 v4 v5 A c l p er, ev = .returned (.tuple #[.agg (letCells v0 v1 v2 v3 v4 v5 A l.length c p), er]) ∧ Kd.C Kd.string w' A l.length l ∧ l.length ≤ c ∧ l.length ≤ 65536 ∧ (∀ x ∈ l, x.size ≤ 65536) ∧ p.size ≤ 65536 ∧ (er = .nilIface ∨ er = errno 5) ∧ Below w.heap.size w w' ∧ (∀ a, A = some a → w.heap.size ≤ a.block) ∧
    ∀ vs l' p', vs.length = 6 → wright vs l' p' = true → s.data.toList = lbytes vs l' p' → er = .nilIface ∧ [v0, v1, v2, v3, v4, v5] = vs ∧ l = l' ∧ p = p'
theorem parse_bad {s : ByteArray} {w W : World} (hb : Below w.heap.size w W) (h : ∀ vs l' p', vs.length = 6 → wright vs l' p' = true → s.data.toList ≠ lbytes vs l' p') :
    ParsePost s w (.returned (.tuple #[.agg (letCells 0 0 0 0 0 0 none 0 0 ⟨#[]⟩), errno 5])) W :=
  ⟨0, 0, 0, 0, 0, 0, none, 0, [], ⟨#[]⟩, _, rfl, ⟨rfl, by simp, fun h => absurd h (by simp)⟩, Nat.le_refl _, by simp, fun x hx => (by cases hx), by decide, .inr rfl, hb, fun a ha => (by cases ha), fun vs l' p' h1 h2 h3 => absurd h3 (h vs l' p' h1 h2)⟩
set_option maxRecDepth 100000 in
set_option maxHeartbeats 16000000 in
theorem parse_c (s : ByteArray) (w : World) (hs : s.size ≤ 65536) (he : Errs w) (htab : Tab w) (hgB : 1 < w.heap.size) :
    Calls Tryz.prog 23 #[.string s] w (ParsePost s w) := by
  obtain ⟨R, hR⟩ : ∃ R, R = w.heap.size := ⟨_, rfl⟩
  obtain ⟨w1, hw1⟩ : ∃ w1, w1 = w.alloc (.cells #[.int .i64 0, .int .i64 0, .int .i64 0, .int .i64 0, .int .i64 0, .int .i64 0, .slice none 0 0, .string ⟨#[]⟩] 24) := ⟨_, rfl⟩
  have hs1 := Lib.hid (show w1.heap.size = R + 1 by rw [hw1, hR]; simp)
  have hr1 := Lib.hid (show w1.heap[R]? = some (.cells #[.int .i64 0, .int .i64 0, .int .i64 0, .int .i64 0, .int .i64 0, .int .i64 0, .slice none 0 0, .string ⟨#[]⟩] 24 (0, 0)) by rw [hw1, hR]; exact heap_alloc_at _ _)
  have hb1 := Lib.hid (show Below w.heap.size w w1 by rw [hw1]; exact (Below.refl _ _).alloc (Nat.le_refl _) _)
  have CR := Lib.hid (read_c s w1 hs)
  have heH := Lib.hid he
  have htabH := Lib.hid htab
  have hgBH := Lib.hid hgB
  clear he htab hgB
  go_enter Tryz.func23, Tryz.ntmps23
  go_upto_region 1 with fail
  rw [← hw1, ← hR]
  replace hw1 := Lib.hid hw1
  replace hR := Lib.hid hR
  go_wp2_with fail
  refine (CR.out).mono ?_
  rintro ev w2 ⟨f, c0, c1, c2, er, rfl, hFK, ⟨hsm, hers⟩, hspec, hb2⟩
  obtain ⟨fb, ft, fl⟩ := f
  have hFK2 := hFK
  unfold FK at hFK2
  obtain ⟨A2, k2, hcs, hk1, hk2, hks⟩ := hFK2
  simp only [List.cons.injEq, and_true] at hcs
  obtain ⟨rfl, rfl, rfl⟩ := hcs
  rw [F.small, Bool.and_eq_true, Bool.and_eq_true, decide_eq_true_eq, decide_eq_true_eq] at hsm
  obtain ⟨⟨hft, hfl⟩, hsml⟩ := hsm
  obtain ⟨n, hN⟩ : ∃ n, n = fl.length := ⟨_, rfl⟩
  rw [← hN] at hk1 hk2 hfl ⊢
  obtain ⟨Fb, hFb⟩ : ∃ Fb, Fb = w2.heap.size := ⟨_, rfl⟩
  obtain ⟨w3, hw3⟩ : ∃ w3, w3 = w2.alloc (.cells #[.bool fb, .string ⟨ft.toArray⟩, .slice A2 n k2] 52) := ⟨_, rfl⟩
  have hs3 := Lib.hid (show w3.heap.size = Fb + 1 by rw [hw3, hFb]; simp)
  have hf3 := Lib.hid (show w3.heap[Fb]? = some (.cells #[.bool fb, .string ⟨ft.toArray⟩, .slice A2 n k2] 52 (0, 0)) by rw [hw3, hFb]; exact heap_alloc_at _ _)
  have hb3 := Lib.hid (show Below w1.heap.size w1 w3 by rw [hw3]; exact hb2.alloc hb2.size _)
  have hr3 := Lib.hid ((hb3.out.block _ (heap_lt hr1.out)).trans hr1.out)
  have hB3 := Lib.hid (hb1.out.trans (hb3.out.mono hb1.out.size))
  have hks3 := Lib.hid (FKs.move (ok' := fun b => w1.heap.size ≤ b ∧ b < Fb) (w' := w3) (fun b hb => ⟨by rw [hFb]; exact hb, by rw [hw3]; exact heap_alloc_lt _ _ _ hb.2⟩) fl A2 0 hks)
  have hsp := Lib.hid (show ∀ vs l' p', vs.length = 6 → wright vs l' p' = true → s.data.toList = lbytes vs l' p' → er = .nilIface ∧ fl = lfull vs l' p' from fun vs l' p' h1 h2 h3 => by
    obtain ⟨e1, e2⟩ := hspec (lst (lfull vs l' p')) (lfull_right _ _ _) (by rw [lst_depth, lfull_depths]; omega) h3
    unfold lst at e2
    cases e2
    exact ⟨e1, rfl⟩)
  have hRF := Lib.hid (show R < Fb by have := hb2.size; have := hs1.out; omega)
  replace hN := Lib.hid hN
  have hsmlH := Lib.hid hsml
  obtain ⟨r0, r1, r2, r3, r4, r5, r6, r7, rsh, rfz⟩ := let_facts hr3.out
  obtain ⟨f0, f1, f2, _, _⟩ := blk3 hf3.out
  clear hFK hks hspec hb2 CR hft
  rcases hers with rfl | rfl
  · by_cases hn9 : n = 9
    · subst hn9
      have h9 : fl.length = 9 := hN.out.symm
      obtain ⟨b, o, rfl, hbF⟩ := FKs.base hks3.out (by omega)
      obtain ⟨pb, pt, pl, pA, pc, hp7, hpt, _, _, q0, q1, q2, _⟩ := FKs.at' hks3.out hsmlH.out 7 (by omega)
      have q1' : w3.cell? ⟨b, o + 22, none⟩ = some (.string ⟨pt.toArray⟩) := by rw [show o + 22 = o + 7 * 3 + 1 from by omega]; exact q1
      have hbFH := Lib.hid hbF
      have hp7H := Lib.hid hp7
      have hptH := Lib.hid hpt
      obtain ⟨p, hp⟩ : ∃ p : ByteArray, p = ⟨pt.toArray⟩ := ⟨_, rfl⟩
      rw [← hp] at q1'
      replace hp := Lib.hid hp
      obtain ⟨L, hL⟩ : ∃ L, L = w3.heap.size := ⟨_, rfl⟩
      obtain ⟨w4, hw4⟩ : ∃ w4, w4 = w3.alloc (.cells #[.int .i64 0, .int .i64 0, .int .i64 0, .int .i64 0, .int .i64 0, .int .i64 0, .slice none 0 0, .string p] 24) := ⟨_, rfl⟩
      have hs4 := Lib.hid (show w4.heap.size = L + 1 by rw [hw4, hL]; simp)
      have hl4 := Lib.hid (show w4.heap[L]? = some (.cells (letArr [0, 0, 0, 0, 0, 0] (.slice none 0 0) p) 24 (0, 0)) by rw [hw4, hL]; exact heap_alloc_at _ _)
      have hFL := Lib.hid (show L = Fb + 1 by rw [hL]; exact hs3.out)
      have hb4 := Lib.hid (show Below w3.heap.size w3 w4 by rw [hw4]; exact (Below.refl _ _).alloc (Nat.le_refl _) _)
      have CN := Lib.hid (numbers_c L w4)
      clear hp7 hpt hbF q0 q1 q2
      go_upto_region 2 with fail
      rw [← hw3, ← hFb]
      replace hw3 := Lib.hid hw3
      replace hFb := Lib.hid hFb
      go_upto_region 7 with fail
      rw [← hw4, ← hL]
      replace hw4 := Lib.hid hw4
      replace hL := Lib.hid hL
      clear q1'
      go_wp2_with fail
      refine (CN.out).mono ?_
      rintro ev w5 ⟨A3, t3, rfl, hA3, hrow, hb5⟩
      have hrowH := Lib.hid hrow
      have hb45 := Lib.hid (hb4.out.trans (hb5.mono hb4.out.size))
      have hb35 := Lib.hid (show Below w1.heap.size w1 w5 from hb3.out.trans (hb45.out.mono hb3.out.size))
      have hB5 := Lib.hid (hB3.out.trans (hb45.out.mono hB3.out.size))
      have hl5 := Lib.hid ((hb5.block _ (heap_lt hl4.out)).trans hl4.out)
      have hf5 := Lib.hid ((hb45.out.block _ (heap_lt hf3.out)).trans hf3.out)
      have hr5 := Lib.hid ((hb45.out.block _ (heap_lt hr3.out)).trans hr3.out)
      have hks5 := Lib.hid (FKs.move (ok' := fun b => w1.heap.size ≤ b ∧ b < Fb) (w' := w5) (fun k hk => ⟨hk, hb45.out.block k (by have := hs3.out; omega)⟩) fl (some ⟨b, o, none⟩) 0 hks3.out)
      have hAL := Lib.hid (show L < A3 by have := hs4.out; omega)
      have hLs := Lib.hid (heap_lt hl5.out)
      clear hrow hb5 hA3 r0 r1 r2 r3 r4 r5 r6 r7 rsh rfz f0 f1 f2
      go_wp2_with fail
      go_loopg [34] 6 (fun g' i W => ∃ (k : Nat) (vs : List Int), g' = 6 - k ∧ k ≤ 6 ∧ i = .int .i64 k ∧ vs.length = 6 ∧ W.heap[L]? = some (.cells (letArr vs (.slice none 0 0) p) 24 (0, 0)) ∧ (∀ vs' l' p', vs'.length = 6 → wright vs' l' p' = true → fl = lfull vs' l' p' → vs.take k = vs'.take k) ∧ Tch (fun b => b = L) w5 W)
      case atStart => exact ⟨0, [0, 0, 0, 0, 0, 0], rfl, by omega, rfl, rfl, hl5.out, fun _ _ _ _ _ _ => by rw [List.take_zero, List.take_zero], Tch.refl _ _⟩
      case round =>
        obtain ⟨k, vs, hg', hk, rfl, hv6, hl, hvk, hT⟩ := hrel
        subst hg'
        have hLF : Fb < L := by have := hFL.out; omega
        have hrowr := hT.heap hrowH.out (show ¬ A3 = L by have := hAL.out; omega)
        have hfr := hT.heap hf5.out (show ¬ Fb = L by omega)
        have hrr := Lib.hid (hT.heap hr5.out (show ¬ R = L by have := hRF.out; omega))
        have hksr := Lib.hid (FKs.move (ok' := fun b => w1.heap.size ≤ b ∧ b < Fb) (w' := wr) (fun k hk => ⟨hk, hT.block k (by have := heap_lt hf5.out; omega) (by omega)⟩) fl (some ⟨b, o, none⟩) 0 hks5.out)
        have hBr := Lib.hid (hB5.out.trans (hT.below (B := w.heap.size) hB5.out.size (fun k hk _ => by subst hk; have := hRF.out; have := hR.out; omega)))
        have hlH := Lib.hid hl
        have hvkH := Lib.hid hvk
        have hTH := Lib.hid hT
        have hv6H := Lib.hid hv6
        have hLFH := Lib.hid hLF
        by_cases hk6 : k < 6
        · have hki : (k : Int) < 6 := by omega
          have hk9 : (k : Int) < 9 := by omega
          obtain ⟨ib, it, il, iA, ic, hik, hit, hil, _, i0, i1, i2, hic, _⟩ := FKs.at' hksr.out hsmlH.out k (by omega)
          have hp1 : wr.cell? ⟨A3, k * 2, none⟩ = some (.pointer (some ⟨L, k, none⟩)) := by rw [cell_of hrowr]; exact row_ptr L k hk6
          have hp2 : wr.cell? ⟨A3, k * 2 + 1, none⟩ = some (.int .i64 (lim k)) := by rw [cell_of hrowr]; exact row_lim L k hk6
          have hnum := Lib.hid (show ∀ vs' l' p', vs'.length = 6 → wright vs' l' p' = true → fl = lfull vs' l' p' → ib = false ∧ il.length = 0 ∧ it = Lib.itoa (vs'.getD k 0) ∧ 0 ≤ vs'.getD k 0 ∧ vs'.getD k 0 ≤ lim k from fun vs' l' p' h1 h2 h3 => by
            rw [h3, lfull_num l' p' h1 k hk6] at hik
            unfold txt at hik
            cases hik
            exact ⟨rfl, rfl, rfl, wright_lim h2 k hk6⟩)
          have hmx := lim_max k hk6
          obtain ⟨m, hm⟩ : ∃ m, m = lim k := ⟨_, rfl⟩
          rw [← hm] at hp2 hnum hmx
          replace hm := Lib.hid hm
          obtain ⟨il0, hil0⟩ : ∃ il0, il0 = il.length := ⟨_, rfl⟩
          rw [← hil0] at i2 hil hic hnum
          replace hil0 := Lib.hid hil0
          have CNum := fun W (h1 : Errs W) (h2 : Tab W) => Lib.hid (number_c ib ⟨it.toArray⟩ iA il0 ic 0 m (by omega) (by omega) (by show it.toArray.size ≤ _; rw [List.size_toArray]; omega) (by omega) W h1 h2)
          obtain ⟨Q, hQ⟩ : ∃ Q, Q = wr.heap.size := ⟨_, rfl⟩
          obtain ⟨W1, hW1⟩ : ∃ W1, W1 = wr.alloc (.cells #[.pointer (some ⟨L, k, none⟩), .int .i64 m] 58) := ⟨_, rfl⟩
          have z1 : W1.cell? ⟨Q, 0, none⟩ = some (.pointer (some ⟨L, k, none⟩)) := by rw [hW1, hQ]; exact (cell_of (heap_alloc_at _ _) 0).trans rfl
          have z2 : W1.cell? ⟨Q, 1, none⟩ = some (.int .i64 m) := by rw [hW1, hQ]; exact (cell_of (heap_alloc_at _ _) 1).trans rfl
          have z3 : W1.cell? ⟨Fb, 2, none⟩ = some (.slice (some ⟨b, o, none⟩) 9 k2) := by rw [hW1]; exact cell_alloc (by rw [cell_of hfr]; rfl) _
          have z4 : W1.cell? ⟨b, o + k * 3, none⟩ = some (.bool ib) := by rw [hW1]; exact cell_alloc i0 _
          have z5 : W1.cell? ⟨b, o + k * 3 + 1, none⟩ = some (.string ⟨it.toArray⟩) := by rw [hW1]; exact cell_alloc i1 _
          have z6 : W1.cell? ⟨b, o + k * 3 + 2, none⟩ = some (.slice iA il0 ic) := by rw [hW1]; exact cell_alloc i2 _
          obtain ⟨S, hS⟩ : ∃ S : World → Prop, S = fun W => W.cell? ⟨Q, 0, none⟩ = some (.pointer (some ⟨L, k, none⟩)) ∧ W.cell? ⟨Q, 1, none⟩ = some (.int .i64 m) ∧ W.cell? ⟨Fb, 2, none⟩ = some (.slice (some ⟨b, o, none⟩) 9 k2) ∧ W.cell? ⟨b, o + k * 3, none⟩ = some (.bool ib) ∧ W.cell? ⟨b, o + k * 3 + 1, none⟩ = some (.string ⟨it.toArray⟩) ∧ W.cell? ⟨b, o + k * 3 + 2, none⟩ = some (.slice iA il0 ic) := ⟨_, rfl⟩
          have hSi : ∀ W, S W ↔ (W.cell? ⟨Q, 0, none⟩ = some (.pointer (some ⟨L, k, none⟩)) ∧ W.cell? ⟨Q, 1, none⟩ = some (.int .i64 m) ∧ W.cell? ⟨Fb, 2, none⟩ = some (.slice (some ⟨b, o, none⟩) 9 k2) ∧ W.cell? ⟨b, o + k * 3, none⟩ = some (.bool ib) ∧ W.cell? ⟨b, o + k * 3 + 1, none⟩ = some (.string ⟨it.toArray⟩) ∧ W.cell? ⟨b, o + k * 3 + 2, none⟩ = some (.slice iA il0 ic)) := fun W => by rw [hS]
          have hS0 : S W1.drew := (hSi _).2 ⟨z1, z2, z3, z4, z5, z6⟩
          have s1 : ∀ X : InS S, X.val.cell? ⟨Q, 0, none⟩ = some (.pointer (some ⟨L, k, none⟩)) := fun X => ((hSi X.val).1 X.mem).1
          have s2 : ∀ X : InS S, X.val.cell? ⟨Q, 1, none⟩ = some (.int .i64 m) := fun X => ((hSi X.val).1 X.mem).2.1
          have s3 : ∀ X : InS S, X.val.cell? ⟨Fb, 2, none⟩ = some (.slice (some ⟨b, o, none⟩) 9 k2) := fun X => ((hSi X.val).1 X.mem).2.2.1
          have s4 : ∀ X : InS S, X.val.cell? ⟨b, o + k * 3, none⟩ = some (.bool ib) := fun X => ((hSi X.val).1 X.mem).2.2.2.1
          have s5 : ∀ X : InS S, X.val.cell? ⟨b, o + k * 3 + 1, none⟩ = some (.string ⟨it.toArray⟩) := fun X => ((hSi X.val).1 X.mem).2.2.2.2.1
          have s6 : ∀ X : InS S, X.val.cell? ⟨b, o + k * 3 + 2, none⟩ = some (.slice iA il0 ic) := fun X => ((hSi X.val).1 X.mem).2.2.2.2.2
          have hne : Nonempty (InS S) := ⟨⟨W1.drew, hS0⟩⟩
          have hS0H := Lib.hid hS0
          have hSiH := Lib.hid hSi
          clear hS hSi hS0 z1 z2 z3 z4 z5 z6 i0 i1 i2 hl hvk hT hrowr hfr hik
          go_upto_region 10 with fail
          rw [← hW1, ← hQ]
          replace hW1 := Lib.hid hW1
          replace hQ := Lib.hid hQ
          clear hp1 hp2
          refine wp_region_mix S [0, 1, 2, 3, 4, 5, 6, 7, 8] [.mem [0, 1, 2, 3, 4, 5, 6, 7, 8], .keep 9, .pure [10, 11, 13, 12], .last 14, .pure [15]] (by kernel_rfl) (by kernel_rfl) hS0H.out ?_
          simp only [pick, List.getD_cons_zero, List.getD_cons_succ, wpMix]
          repeat (go_big_quiet_step (fail))
          refine wpQuiet_nil ?_
          have hbW1 := Lib.hid (show Below wr.heap.size wr W1.drew from by rw [hW1.out]; exact ((Below.refl _ _).alloc (Nat.le_refl _) _).drew)
          have hBW := Lib.hid (hBr.out.trans (hbW1.out.mono hBr.out.size))
          have heW := Lib.hid (heH.out.below (hBW.out.mono (Nat.le_refl _)))
          have htW := Lib.hid (htabH.out.keep hBW.out hgBH.out)
          obtain ⟨d1, d2, d3, d4, d5, d6⟩ := (hSiH.out _).1 hS0H.out
          go_wp2_with (go_at_call 46; (with_reducible refine ((CNum _ heW.out htW.out).out).mono ?_); rintro ev w6 ⟨x, er6, rfl, her6, _, hx6, hb6⟩)
          have a1 := keepc hb6 d1
          have a2 := keepc hb6 d2
          have a3 := keepc hb6 d3
          have a4 := keepc hb6 d4
          have a5 := keepc hb6 d5
          have a6 := keepc hb6 d6
          refine ⟨(hSiH.out _).2 ⟨a1, a2, a3, a4, a5, a6⟩, ?_⟩
          have hb6H := Lib.hid (hbW1.out.trans (hb6.mono hbW1.out.size))
          have hl6 := Lib.hid ((hb6H.out.block _ (heap_lt hlH.out)).trans hlH.out)
          have y1 : w6.cell? ⟨L, k, none⟩ = some (.int .i64 (vs.getD k 0)) := by rw [cell_of hl6.out]; exact letArr_get _ _ _ k hk6
          have y2 : w6.frozen? ⟨L, k, none⟩ = false := fr_of hl6.out k
          have hx6H := Lib.hid hx6
          clear a1 a2 a3 a4 a5 a6 d1 d2 d3 d4 d5 d6 hb6 hx6 s1 s2 s3 s4 s5 s6
          have hr6 := Lib.hid ((hb6H.out.block _ (heap_lt hrr.out)).trans hrr.out)
          have hgood := Lib.hid (show ∀ vs' l' p', vs'.length = 6 → wright vs' l' p' = true → fl = lfull vs' l' p' → er6 = .nilIface ∧ x = vs'.getD k 0 from fun vs' l' p' h1 h2 h3 => by
            obtain ⟨e1, e2, e3, e4, e5⟩ := hnum.out vs' l' p' h1 h2 h3
            exact hx6H.out _ e4 e5 e1 e2 (by rw [← e3]))
          have hw6 : ((w6.setCell ⟨L, k, none⟩ (.int .i64 x)).heap[R]?) = w6.heap[R]? := heap_set_ne _ _ _ _ (by show R ≠ L; have := hRF.out; have := hLFH.out; omega)
          have hw6H := Lib.hid hw6
          clear hw6
          rcases her6 with rfl | rfl
          · repeat (go_big_quiet_step (fail))
            refine wpQuiet_nil ?_
            go_wp2_with fail
            simp only [stepPost]
            repeat (go_big_quiet_step (fail))
            refine wpQuiet_nil ?_
            go_wp2_with fail
            go_roundg (6 - (k + 1))
            case measure => omega
            case rel =>
              refine ⟨k + 1, vs.set k x, rfl, by omega, by go_num, by rw [List.length_set]; exact hv6H.out, ?_, fun vs' l' p' h1 h2 h3 => ?_, (hTH.out.trans (Tch.of_new hb6H.out)).setCell ⟨L, k, none⟩ (fun _ => rfl) _⟩
              · rw [← letArr_set hv6H.out _ _ k hk6]
                exact heap_set _ _ _ _ _ _ _ hl6.out
              · rw [take_set _ _ _ (by rw [hv6H.out]; exact hk6), take_next _ _ (by omega), hvkH.out vs' l' p' h1 h2 h3, (hgood.out vs' l' p' h1 h2 h3).2]
          · unfold errno
            have hr7 := Lib.hid (hw6H.out.trans hr6.out)
            obtain ⟨r0, r1, r2, r3, r4, r5, r6, r7, rsh, rfz⟩ := let_facts hr7.out
            repeat (go_big_quiet_step (fail))
            refine wpQuiet_nil ?_
            go_wp2_with fail
            simp only [stepPost]
            repeat (go_big_quiet_step (fail))
            refine wpQuiet_nil ?_
            go_wp2_with fail
            (try simp only [Exit.inBlock, Exit.then])
            refine bodyPost_ret (Go.Proofs.YtbefkoljcacpcaaGreatDoor.Tm.results_cell_tmp rfl _ _ R 24 (letCells 0 0 0 0 0 0 none 0 0 ⟨#[]⟩) (0, 0) _ rfl (set8 hr7.out _ _ _ _ _ _ _ _) Tryz.underlying24 rfl (by kernel_rfl) _ rfl) rfl ?_
            refine parse_bad (below_set8 ((hBr.out.trans (hb6H.out.mono hBr.out.size)).setCell (by show w.heap.size ≤ L; have := hR.out; have := hRF.out; have := hLFH.out; omega) _) (by rw [hR.out]; exact Nat.le_refl _) _ _ _ _ _ _ _ _) fun vs l' p' h1 h2 h3 => ?_
            have e2 := (hgood.out vs l' p' h1 h2 (hsp.out vs l' p' h1 h2 h3).2).1
            cases e2
        · have hk6e : k = 6 := by omega
          subst hk6e
          have hki : ¬ ((6 : Nat) : Int) < 6 := by omega
          have htake : vs.take 6 = vs := List.take_of_length_le (by rw [hv6H.out]; exact Nat.le_refl _)
          rw [htake] at hvkH
          obtain ⟨gb, gt, gl, gA, gc, hg6, _, hgl, hgsm, g0, g1, g2, hgc, hgks⟩ := FKs.at' hksr.out hsmlH.out 6 (by omega)
          have hg6H := Lib.hid hg6
          have hgsmH := Lib.hid hgsm
          have hgksH := Lib.hid hgks
          have f2 : wr.cell? ⟨Fb, 2, none⟩ = some (.slice (some ⟨b, o, none⟩) 9 k2) := by rw [cell_of hfr]; rfl
          obtain ⟨m6, hm6⟩ : ∃ m6, m6 = gl.length := ⟨_, rfl⟩
          have g2' : wr.cell? ⟨b, o + 20, none⟩ = some (.slice gA m6 gc) := by rw [hm6, show o + 20 = o + 6 * 3 + 2 from by omega]; exact g2
          rw [← hm6] at hgl hgc
          have hm6H := Lib.hid hm6
          have hglH := Lib.hid hgl
          clear htake hvk hT hrowr hfr hl hg6 hgsm hgks g0 g1 g2 hm6 hgl
          go_wp2_with fail
          obtain ⟨wa, hwa⟩ : ∃ wa, wa = wr := ⟨_, rfl⟩
          subst hwa
          have hRL := Lib.hid (show R < L by have := hRF.out; have := hLFH.out; omega)
          have hLa := Lib.hid (heap_lt hlH.out)
          go_loopg [64] m6 (fun g' i W => ∃ (j : Nat) (v : Value), g' = m6 - j ∧ j ≤ m6 ∧ i = .int .i64 j ∧ W.heap[L]? = some (.cells (letArr vs v p) 24 (0, 0)) ∧ StrRow wa.heap.size W v (textsOf (gl.take j)) ∧ Tch (fun b => b = L) wa W)
          case atStart => exact ⟨0, .slice none 0 0, rfl, by omega, rfl, hlH.out, StrRow.nil _ _, Tch.refl _ _⟩
          case round =>
            obtain ⟨j, v, hg', hj, rfl, hl, hrw, hT⟩ := hrel
            subst hg'
            have hl2 := Lib.hid hl
            have hrw2 := Lib.hid hrw
            have hT2 := Lib.hid hT
            have hrr2 := Lib.hid (hT.heap hrr.out (show ¬ R = L by have := hRL.out; omega))
            have hBr2 := Lib.hid (hBr.out.trans (hT.below (B := w.heap.size) hBr.out.size (fun k hk _ => by subst hk; have := hRL.out; have := hR.out; omega)))
            by_cases hjm : j < m6
            · have hji : (j : Int) < (m6 : Int) := by omega
              have hjl : j < gl.length := by rw [← hm6H.out]; exact hjm
              obtain ⟨b6, o6, rfl, hb6F⟩ := FKs.base hgksH.out (by omega)
              have hgr := FKs.move (ok' := fun b => w1.heap.size ≤ b ∧ b < Fb) (w' := wr) (fun k hk => ⟨hk, hT.block k (by have := hLa.out; have := hLFH.out; omega) (by have := hLFH.out; omega)⟩) gl (some ⟨b6, o6, none⟩) 0 hgksH.out
              obtain ⟨jb, jt, jl, jA, jc, hjk, hjt, hjll, _, j0, j1, j2, _, _⟩ := FKs.at' hgr hgsmH.out j hjl
              have hnext := Lib.hid (textsOf_take gl j jb jt jl hjk)
              have hlen := Lib.hid (show (textsOf (gl.take j)).length = j by rw [textsOf_len, List.length_take]; omega)
              obtain ⟨x, hx⟩ : ∃ x : ByteArray, x = ⟨jt.toArray⟩ := ⟨_, rfl⟩
              rw [← hx] at j1 hnext
              replace hx := Lib.hid hx
              generalize jl.length = jn at *
              obtain ⟨Q, hQ⟩ : ∃ Q, Q = wr.heap.size := ⟨_, rfl⟩
              obtain ⟨W1, hW1⟩ : ∃ W1, W1 = wr.alloc (.cells #[.bool jb, .string x, .slice jA jn jc] 52) := ⟨_, rfl⟩
              have z1 : W1.cell? ⟨Q, 1, none⟩ = some (.string x) := by rw [hW1, hQ]; exact (cell_of (heap_alloc_at _ _) 1).trans rfl
              have hlW := Lib.hid (show W1.heap[L]? = some (.cells (letArr vs v p) 24 (0, 0)) by rw [hW1]; exact (heap_alloc_lt _ _ _ (heap_lt hl)).trans hl)
              have z2 : W1.cell? ⟨L, 6, none⟩ = some v := by rw [cell_of hlW.out]; rfl
              have hbW1 := Lib.hid (show Below wr.heap.size wr W1 from by rw [hW1]; exact (Below.refl _ _).alloc (Nat.le_refl _) _)
              have hrW1 := Lib.hid (hrw.keep (W' := W1) (fun b _ h2 => hbW1.out.block b h2))
              have hbase := Lib.hid (show wa.heap.size ≤ W1.heap.size from Nat.le_trans hT.size hbW1.out.size)
              have hLv := Lib.hid (show some L ≠ v.ownBlock from fun e => by have := (hrw.lt _ e.symm).1; have := hLa.out; omega)
              have hgl' := hglH.out
              clear hgr hjk hl hrw hT
              go_upto_region 17 with fail
              rw [← hW1, ← hQ]
              replace hW1 := Lib.hid hW1
              replace hQ := Lib.hid hQ
              go_wp2_with (at_builtin; refine str_app (by rfl) _ _ _ (by rfl) Tryz.underlying22 (by rfl) j 1 (by rfl) hrW1.out hlen.out (by omega) hbase.out ?_; intro g7 cap7 w7 hrow7 hgrew7; have hrow7H := Lib.hid hrow7; have hgrew7H := Lib.hid hgrew7; have hl7 := Lib.hid (hgrew7.heap hlW.out hLv.out); have z7 : w7.frozen? ⟨L, 6, none⟩ = false := fr_of hl7.out 6; have z8 : w7.cell? ⟨L, 6, none⟩ = some v := (cell_of hl7.out 6).trans rfl; clear hrow7 hgrew7)
              go_roundg (m6 - (j + 1))
              case measure => omega
              case rel =>
                refine ⟨j + 1, .slice (some ⟨g7, 0, none⟩) (j + 1) cap7, rfl, by omega, by go_num, heap_set _ _ _ _ _ _ _ hl7.out, ?_, (hgrew7H.out.tch (hT2.out.trans (Tch.of_new hbW1.out)) (fun b hb => (hrw2.out.lt b hb).1)).setCell ⟨L, 6, none⟩ (fun _ => rfl) _⟩
                rw [hnext.out]
                exact hrow7H.out.keep (fun b h1 h2 => heap_set_ne _ _ _ _ (by show b ≠ L; have := hLa.out; omega))
            · have hjm' : j = m6 := by omega
              subst hjm'
              have hji : ¬ (j : Int) < (j : Int) := by omega
              have ht : gl.take j = gl := List.take_of_length_le (by rw [← hm6H.out]; exact Nat.le_refl _)
              rw [ht] at hrw2
              have hfin := Lib.hid (show ∀ vs' l' p', vs'.length = 6 → wright vs' l' p' = true → s.data.toList = lbytes vs' l' p' → vs = vs' ∧ textsOf gl = l' ∧ p = p' from fun vs' l' p' h1 h2 h3 => by
                have e1 := (hsp.out vs' l' p' h1 h2 h3).2
                refine ⟨?_, ?_, ?_⟩
                · rw [hvkH.out vs' l' p' h1 h2 e1, List.take_of_length_le (by omega)]
                · have e6 := hg6H.out
                  rw [e1, lfull_have l' p' h1] at e6
                  unfold lst at e6
                  cases e6
                  exact textsOf_lhave l'
                · have e7 := hp7H.out
                  rw [e1, lfull_patch l' p' h1] at e7
                  unfold txt at e7
                  cases e7
                  rw [hp.out])
              obtain ⟨v0, v1, v2, v3, v4, v5, rfl⟩ : ∃ v0 v1 v2 v3 v4 v5, vs = [v0, v1, v2, v3, v4, v5] := by
                match vs, hv6H.out with
                | [a, b, c, d, e, f], _ => exact ⟨a, b, c, d, e, f, rfl⟩
              obtain ⟨A, c, hv, hc, _, _⟩ := hrw2.out.read
              subst hv
              have hcH := Lib.hid hc
              clear hc
              obtain ⟨N, hNt⟩ : ∃ N, N = (textsOf gl).length := ⟨_, rfl⟩
              rw [← hNt] at hl2 hrw2
              replace hNt := Lib.hid hNt
              obtain ⟨c0, c1, c2, c3, c4, c5, c6, c7, _, _⟩ := let_facts (y0 := .int .i64 v0) (y1 := .int .i64 v1) (y2 := .int .i64 v2) (y3 := .int .i64 v3) (y4 := .int .i64 v4) (y5 := .int .i64 v5) hl2.out
              obtain ⟨r0, r1, r2, r3, r4, r5, r6, r7, rsh, rfz⟩ := let_facts hrr2.out
              clear hl hrw hT ht
              go_wp2_with fail
              (try simp only [Exit.inBlock, Exit.then])
              refine bodyPost_ret (Go.Proofs.YtbefkoljcacpcaaGreatDoor.Tm.results_cell_tmp rfl _ _ R 24 #[.int .i64 v0, .int .i64 v1, .int .i64 v2, .int .i64 v3, .int .i64 v4, .int .i64 v5, .slice A N c, .string p] (0, 0) _ rfl (set8 hrr2.out _ _ _ _ _ _ _ _) Tryz.underlying24 rfl (by kernel_rfl) _ rfl) rfl ?_
              rw [hNt.out] at hrw2 ⊢
              obtain ⟨A', c', hv, _, hK, hlo⟩ := (hrw2.out.keep (fun b h1 h2 => set8_ne (show b ≠ R by have := hRL.out; have := hLa.out; omega) (.int .i64 v0) (.int .i64 v1) (.int .i64 v2) (.int .i64 v3) (.int .i64 v4) (.int .i64 v5) (.slice A (textsOf gl).length c) (.string p))).read
              obtain ⟨rfl, rfl⟩ : A = A' ∧ c = c' := by
                injection hv with e1 _ e2
                exact ⟨e1, e2⟩
              refine ⟨v0, v1, v2, v3, v4, v5, A, c, textsOf gl, p, .nilIface, rfl, hK, hcH.out, ?_, textsOf_small hgsmH.out, ?_, .inl rfl, below_set8 hBr2.out (by rw [hR.out]; exact Nat.le_refl _) _ _ _ _ _ _ _ _, fun a ha => by have := hlo a ha; have := hLa.out; have := hRL.out; have := hR.out; omega, fun vs' l' p' h1 h2 h3 => ?_⟩
              · rw [textsOf_len, ← hm6H.out]; exact hglH.out
              · rw [hp.out]
                show pt.toArray.size ≤ 65536
                rw [List.size_toArray]
                exact hptH.out
              · exact ⟨rfl, hfin.out vs' l' p' h1 h2 h3⟩
    · have hn9i : ¬ (n : Int) = 9 := by omega
      go_upto_region 2 with fail
      rw [← hw3, ← hFb]
      replace hw3 := Lib.hid hw3
      replace hFb := Lib.hid hFb
      go_wp2_with fail
      (try simp only [Exit.inBlock, Exit.then])
      refine bodyPost_ret (Go.Proofs.YtbefkoljcacpcaaGreatDoor.Tm.results_cell_tmp rfl _ _ R 24 (letCells 0 0 0 0 0 0 none 0 0 ⟨#[]⟩) (0, 0) _ rfl (set8 hr3.out _ _ _ _ _ _ _ _) Tryz.underlying24 rfl (by kernel_rfl) _ rfl) rfl ?_
      refine parse_bad (below_set8 hB3.out (by rw [hR.out]; exact Nat.le_refl _) _ _ _ _ _ _ _ _) fun vs l' p' h1 h2 h3 => ?_
      have e2 := (hsp.out vs l' p' h1 h2 h3).2
      have := hN.out
      rw [e2, lfull_length _ _ h1] at this
      exact hn9 this
  · unfold errno
    go_upto_region 2 with fail
    rw [← hw3, ← hFb]
    replace hw3 := Lib.hid hw3
    replace hFb := Lib.hid hFb
    go_wp2_with fail
    (try simp only [Exit.inBlock, Exit.then])
    refine bodyPost_ret (Go.Proofs.YtbefkoljcacpcaaGreatDoor.Tm.results_cell_tmp rfl _ _ R 24 (letCells 0 0 0 0 0 0 none 0 0 ⟨#[]⟩) (0, 0) _ rfl (set8 hr3.out _ _ _ _ _ _ _ _) Tryz.underlying24 rfl (by kernel_rfl) _ rfl) rfl ?_
    refine parse_bad (below_set8 hB3.out (by rw [hR.out]; exact Nat.le_refl _) _ _ _ _ _ _ _ _) fun vs l' p' h1 h2 h3 => ?_
    have e2 := (hsp.out vs l' p' h1 h2 h3).1
    cases e2
end Go.Proofs.YtbefkoljcacpcaaGreatDoor.Wi
set_option linter.unusedVariables false
set_option linter.unusedSimpArgs false
namespace Go.Proofs.YtbefkoljcacpcaaGreatDoor.Wi
open Go Go.RowKit Go.Proofs.YtbefkoljcacpcaaGreatDoorW.PrintWords Go.Proofs.YtbefkoljcacpcaaGreatDoor.B Go.Proofs.YtbefkoljcacpcaaGreatDoor.Tm
theorem rdOf_at {α : Type} (d : α) (l : List α) (i : Nat) : rdOf d l (i : Int) = l.getD i d := by unfold rdOf; simp
theorem toList_inj {a b : ByteArray} (h : a.toList = b.toList) : a = b := by
  rw [ByteArray.toList_eq, ByteArray.toList_eq] at h
  exact ByteArray.ext (Array.ext' h)
theorem same_l0 (a b : List ByteArray) (hl : a.length = b.length) (hs : a.length ≤ 9223372036854775807) (n : Nat) : ∀ (k i : Nat), i + n = a.length → n < k →
    PSame.tambourref01_Same.l0 k a b i = some (decide (a.drop i = b.drop i)) := by
  induction n with
  | zero =>
    intro k i hi hk
    obtain ⟨k, rfl⟩ : ∃ m, k = m + 1 := ⟨k - 1, by omega⟩
    simp only [PSame.tambourref01_Same.l0]
    rw [if_neg (by omega), List.drop_of_length_le (by omega), List.drop_of_length_le (by omega)]
    simp
  | succ n ih =>
    intro k i hi hk
    obtain ⟨k, rfl⟩ : ∃ m, k = m + 1 := ⟨k - 1, by omega⟩
    simp only [PSame.tambourref01_Same.l0]
    have h1 : i < a.length := by omega
    have h2 : i < b.length := by omega
    rw [if_pos (by omega), if_pos (by omega), if_pos (by omega), rdOf_at, rdOf_at, show wrap64 ((i : Int) + 1) = (i : Int) + 1 from by unfold wrap64; omega]
    have d1 : a.drop i = a.getD i ByteArray.empty :: a.drop (i + 1) := by
      rw [List.drop_eq_getElem_cons h1, List.getD_eq_getElem?_getD, List.getElem?_eq_getElem h1]; rfl
    have d2 : b.drop i = b.getD i ByteArray.empty :: b.drop (i + 1) := by
      rw [List.drop_eq_getElem_cons h2, List.getD_eq_getElem?_getD, List.getElem?_eq_getElem h2]; rfl
    rw [d1, d2]
    by_cases hc : (a.getD i ByteArray.empty).toList = (b.getD i ByteArray.empty).toList
    · have e : ((i : Int) + 1) = ((i + 1 : Nat) : Int) := by omega
      rw [if_pos hc, e, ih k (i + 1) (by omega) (by omega), toList_inj hc]
      simp
    · rw [if_neg hc]
      have : ¬ (a.getD i ByteArray.empty :: a.drop (i + 1) = b.getD i ByteArray.empty :: b.drop (i + 1)) := fun e => hc (by injection e with e1 e2; rw [e1])
      rw [decide_eq_false this]
theorem same_f (a b : List ByteArray) (hs : a.length ≤ 9223372036854775807) : PSame.tambourref01_Same.f (a.length + 1) a b = some (decide (a = b)) := by
  unfold PSame.tambourref01_Same.f
  by_cases hl : a.length = b.length
  · rw [if_pos (by omega)]
    have := same_l0 a b hl hs a.length (a.length + 1) 0 (by omega) (by omega)
    simpa using this
  · rw [if_neg (by omega)]
    have : ¬ a = b := fun e => hl (by rw [e])
    simp [this]
theorem same17_f (v0 v1 v2 v3 v4 v5 : Int) (l : List ByteArray) (p : ByteArray) (u0 u1 u2 u3 u4 u5 : Int) (m : List ByteArray) (q : ByteArray) (hs : l.length ≤ 9223372036854775807) :
    PSame.tambourref17_Same.f (l.length + 1) v0 v1 v2 v3 v4 v5 l p u0 u1 u2 u3 u4 u5 m q = some (decide ([v0, v1, v2, v3, v4, v5] = [u0, u1, u2, u3, u4, u5] ∧ l = m ∧ p = q)) := by
  unfold PSame.tambourref17_Same.f
  rw [same_f l m hs]
  by_cases h0 : v0 = u0
  · by_cases h1 : v1 = u1
    · by_cases h2 : v2 = u2
      · by_cases h3 : v3 = u3
        · by_cases h4 : v4 = u4
          · by_cases h5 : v5 = u5
            · by_cases hl : l = m
              · by_cases hp : p = q
                · simp [h0, h1, h2, h3, h4, h5, hl, hp]
                · have : ¬ p.toList = q.toList := fun e => hp (toList_inj e)
                  simp [h0, h1, h2, h3, h4, h5, hl, hp, this]
              · simp [h0, h1, h2, h3, h4, h5, hl]
            · simp [h5]
          · simp [h4]
        · simp [h3]
      · simp [h2]
    · simp [h1]
  · simp [h0]
theorem same17_c (v0 v1 v2 v3 v4 v5 : Int) (A : Option Addr) (c : Nat) (l : List ByteArray) (p : ByteArray) (u0 u1 u2 u3 u4 u5 : Int) (B : Option Addr) (d : Nat) (m : List ByteArray) (q : ByteArray) (w : World)
    (h0 : Kd.C Kd.string w A l.length l) (k0 : l.length ≤ c) (h1 : Kd.C Kd.string w B m.length m) (k1 : m.length ≤ d) :
    Calls Tryz.prog 9 #[.agg (letCells v0 v1 v2 v3 v4 v5 A l.length c p), .agg (letCells u0 u1 u2 u3 u4 u5 B m.length d q)] w fun ev w' => ev = .returned (.bool (decide ([v0, v1, v2, v3, v4, v5] = [u0, u1, u2, u3, u4, u5] ∧ l = m ∧ p = q))) ∧ Below w.heap.size w w' :=
  PSame.tambourref17_Same.calls (l.length + 1) v0 v1 v2 v3 v4 v5 A c l p u0 u1 u2 u3 u4 u5 B d m q _ w h0 k0 h1 k1 (same17_f _ _ _ _ _ _ _ _ _ _ _ _ _ _ _ _ h0.2.1)
end Go.Proofs.YtbefkoljcacpcaaGreatDoor.Wi
