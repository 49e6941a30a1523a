/- order.Check, order.Missing: their walks. -/
import Derived.Test.YtalkhiggapbfjaaDoorOrL
import Derived.Test.YtalkhiggapbfjaaDoorOrG
set_option linter.unusedVariables false
set_option linter.unusedSimpArgs false
namespace Go.Proofs.YtalkhiggapbfjaaDoor.Orp
open Go Go.RowKit Go.Sort Go.Lib Go.Proofs.YtalkhiggapbfjaaDoor.B Go.Proofs.YtalkhiggapbfjaaDoor.St Go.Proofs.YtalkhiggapbfjaaDoor.Mp
open Go.Proofs.YtalkhiggapbfjaaDoor.Hp (ltB)
/-- What Linear's two results are. -/
def LinRes (zs : List Nx) (base : Nat) (w' : World) (v er : Value) : Prop :=
  (¬ (names zs).Nodup ∧ v = .slice none 0 0 ∧ er = .iface 48 (.int .i64 12)) ∨
  ((names zs).Nodup ∧ ∃ l, Lin ltB (nds zs) l ∧ ((l.length < zs.length ∧ v = .slice none 0 0 ∧ er = .iface 48 (.int .i64 11)) ∨ (l.length = zs.length ∧ er = .nilIface ∧ SRow base w' v l)))
theorem lin_res {zs : List Nx} {w w' : World} {e : Ending} (h : LinPost zs w e w') : ∃ v er, e = .returned (.tuple #[v, er]) ∧ LinRes zs w.heap.size w' v er ∧ Below w.heap.size w w' := by
  obtain ⟨hb, h⟩ := h
  rcases h with ⟨hn, rfl⟩ | ⟨hn, l, hl, ⟨hlt, rfl⟩ | ⟨v, hle, rfl, hr⟩⟩
  · exact ⟨_, _, rfl, .inl ⟨hn, rfl, rfl⟩, hb⟩
  · exact ⟨_, _, rfl, .inr ⟨hn, l, hl, .inl ⟨hlt, rfl, rfl⟩⟩, hb⟩
  · exact ⟨v, _, rfl, .inr ⟨hn, l, hl, .inr ⟨hle, rfl, hr⟩⟩, hb⟩
def LinP2 (zs : List Nx) (w : World) (e : Ending) (w' : World) : Prop := ∃ v er, e = .returned (.tuple #[v, er]) ∧ LinRes zs w.heap.size w' v er ∧ Below w.heap.size w w'
theorem linear2_c (A : Option Addr) (c : Nat) (zs : List Nx) (w : World) (hS : SetAt w A c zs) (hz : zs.length ≤ 1000) (hd : ∀ z ∈ zs, z.deps.length ≤ 1000) : Calls Tryd.prog 7 #[.slice A zs.length c] w (LinP2 zs w) :=
  (linear_c A c zs w hS hz hd).mono fun e w' h => lin_res h
def CheckPost (zs : List Nx) (w : World) (e : Ending) (w' : World) : Prop := ∃ v er, e = .returned er ∧ LinRes zs w.heap.size w' v er ∧ Below w.heap.size w w'
set_option maxHeartbeats 1000000 in
theorem check_c (A : Option Addr) (c : Nat) (zs : List Nx) (w : World) (hS : SetAt w A c zs) (hz : zs.length ≤ 1000) (hd : ∀ z ∈ zs, z.deps.length ≤ 1000) : Calls Tryd.prog 15 #[.slice A zs.length c] w (CheckPost zs w) := by
  have hl := Lib.hid (linear2_c A c zs w hS hz hd)
  clear hS hz hd
  go_enter Tryd.func15, Tryd.ntmps15
  go_wp2_with fail
  refine hl.out.mono ?_
  rintro e w1 ⟨v, er, rfl, hr, hb⟩
  replace hr := Lib.hid hr
  replace hb := Lib.hid hb
  go_wp2_with fail
  go_ret
  exact ⟨v, er, rfl, hr.out, hb.out⟩
theorem cont_c {w : World} {A : Option Addr} {c : Nat} {l : List ByteArray} (h : TAt w A c l) (x : ByteArray) (b : Bool) (hb : b = true ↔ x ∈ l) : Calls Tryd.prog 34 #[.slice A l.length c, .string x] w fun e w' => e = .returned (.bool b) ∧ w' = w := by
  obtain ⟨h1, h2, h3, h4⟩ := h
  by_cases h0 : 0 < l.length
  · obtain ⟨bk, o, rfl, hc⟩ := h4 h0
    refine (Tryd.slices_Contains_string bk o l.length c l x w (Nat.le_refl _) (by omega) hc).mono ?_
    rintro e w' ⟨rfl, rfl⟩
    rw [List.take_of_length_le (Nat.le_refl _)]
    have : containsS l x = b := by rw [Bool.eq_iff_iff, containsS_iff, hb]
    rw [this]
    exact ⟨rfl, rfl⟩
  · have hn : l = [] := List.eq_nil_of_length_eq_zero (by omega)
    subst hn
    refine (Tryd.slices_Contains_string_empty A c x w).mono ?_
    rintro e w' ⟨rfl, rfl⟩
    have : b = false := by
      cases b
      · rfl
      · exact absurd (hb.1 rfl) (by simp)
    rw [this]
    exact ⟨rfl, rfl⟩
noncomputable def inB (l : List ByteArray) (x : ByteArray) : Bool := open Classical in decide (x ∈ l)
theorem inB_iff {l : List ByteArray} {x : ByteArray} : inB l x = true ↔ x ∈ l := by unfold inB; simp
theorem miss1_c {W : World} {A : Option Addr} {c Hb : Nat} {l : List ByteArray} (h : TAt W A c l) (hc : W.cell? ⟨Hb, 0, none⟩ = some (.slice A l.length c)) (x : ByteArray) : Calls Tryd.prog 33 #[.string x, .pointer (some ⟨Hb, 0, none⟩)] W fun e w' => e = .returned (.bool (inB l x)) ∧ w' = W := by
  have hcc := Lib.hid (cont_c h x (inB l x) inB_iff)
  generalize inB l x = b at *
  clear h
  go_enter Tryd.func33, Tryd.ntmps33
  go_wp2_with fail
  refine hcc.out.mono ?_
  rintro e w1 ⟨rfl, rfl⟩
  go_wp2_with fail
  go_ret
  exact ⟨rfl, rfl⟩
theorem delNil_c (fv : Value) (c : Nat) (w : World) : Calls Tryd.prog 32 #[.slice none 0 c, fv] w fun e w' => e = .returned (.slice none 0 c) ∧ w' = w := by
  go_enter Tryd.func32, Tryd.ntmps32
  go_wp2_with fail
  refine (Tryd.slices_IndexFunc_empty (α := List UInt8) none c fv w).mono ?_
  rintro e w1 ⟨rfl, rfl⟩
  go_wp2_with fail
  go_ret
  exact ⟨rfl, rfl⟩
theorem TAt.move {w w' : World} {A : Option Addr} {c : Nat} {l : List ByteArray} (h : TAt w A c l) (hm : ∀ a, A = some a → 0 < l.length → w'.heap[a.block]? = w.heap[a.block]?) : TAt w' A c l := by
  obtain ⟨h1, h2, h3, h4⟩ := h
  refine ⟨h1, h2, h3, fun h0 => ?_⟩
  obtain ⟨b, o, e, hc⟩ := h4 h0
  exact ⟨b, o, e, fun j hj => (World.cell?_of_block (a := ⟨b, o + j, none⟩) (show w'.heap[b]? = w.heap[b]? from hm _ e h0)).trans (hc j hj)⟩
theorem TAt.lt {w : World} {A : Option Addr} {c : Nat} {l : List ByteArray} (h : TAt w A c l) : ∀ a, A = some a → 0 < l.length → a.block < w.heap.size := by
  intro a ha h0
  obtain ⟨b, o, e, hc⟩ := h.2.2.2 h0
  rw [ha] at e
  cases e
  exact World.block_lt_of_cell? w _ (hc 0 h0)
def DelPost (base : Nat) (v : Value) (l : List ByteArray) (w : World) (e : Ending) (w' : World) : Prop := ∃ v', e = .returned v' ∧ SRow base w' v' l ∧ Grew v w w' ∧ (v = .slice none 0 0 → v' = .slice none 0 0)
theorem del_c {base Hb c : Nat} {A : Option Addr} {w : World} {v : Value} {l have_ : List ByteArray} (hr : SRow base w v l) (hn : l.length ≤ 1000000) (hT : TAt w A c have_) (hA : ∀ a, A = some a → 0 < have_.length → a.block < base) (hH : w.heap[Hb]? = some (.cells #[.slice A have_.length c] 25 (0, 0))) (hHb : Hb < base) :
    Calls Tryd.prog 32 #[v, .func (.func 33) #[] #[.pointer (some ⟨Hb, 0, none⟩)]] w (DelPost base v (l.filter fun s => !inB have_ s) w) := by
  rcases hr.form with ⟨rfl, rfl⟩ | ⟨g, cap, cur, rfl, e2, e3, e4, e5, e6, e7⟩
  · refine (delNil_c _ 0 w).mono ?_
    rintro e w' ⟨rfl, rfl⟩
    exact ⟨_, rfl, SRow.nil _ _, Grew.refl _ _, fun h => h⟩
  · have hgives : ∀ (W : World) (x : List UInt8), (∀ k, k < w.heap.size → k ≠ g → W.heap[k]? = w.heap[k]?) → FnGives Tryd.prog 33 #[.pointer (some ⟨Hb, 0, none⟩)] #[encStr x] (.bool (inB have_ ⟨x.toArray⟩)) W := by
      intro W x hk
      have hT' : TAt W A c have_ := hT.move fun a ha h0 => hk _ (hT.lt a ha h0) (by have := hA a ha h0; omega)
      have hc' : W.cell? ⟨Hb, 0, none⟩ = some (.slice A have_.length c) := cell_of ((hk _ (heap_lt hH) (by omega)).trans hH) 0
      refine (miss1_c hT' hc' ⟨x.toArray⟩).mono ?_
      rintro e w' ⟨rfl, rfl⟩
      exact ⟨rfl, 0, rfl⟩
    have hlt := heap_lt e3
    have hH2 := row_holds e3 rfl (by rw [Nat.mul_one]; exact e7)
    have hsz : (toL l).toArray.size = l.length := by simp [toL]
    have := Tryd.slices_DeleteFunc encStr (fun x => rfl) (fun x => inB have_ ⟨x.toArray⟩) 33 #[.pointer (some ⟨Hb, 0, none⟩)] (enters_of Tryd.func33 (by kernel_rfl) rfl) [] (fun w => by kernel_rfl) g 0 cap (toL l).toArray w
      (fun W x hb => hgives W x fun k hk _ => hb.block k hk) (fun n os dk x _ => hgives _ x fun k hk hne => (Sort.heap_grow_old _ os (by
        show k < (mapBlock (Sort.ahead w n) g _).heap.size
        rw [heap_map_size]; exact hk)).trans (heap_map_ne _ _ _ _ hne)) hH2 (by rw [hsz]; omega) (by rw [hsz]; exact e4)
    rw [hsz] at this
    refine this.mono ?_
    rintro e w' ⟨rfl, q, hw⟩
    have hfl : ((toL l).toArray.toList.filter fun x => !inB have_ ⟨x.toArray⟩) = toL (l.filter fun s => !inB have_ s) := by
      unfold toL
      rw [List.toList_toArray, List.filter_map]
      rfl
    rw [hfl] at hw ⊢
    have hle : (toL (l.filter fun s => !inB have_ s)).length ≤ l.length := by rw [toL_len]; exact List.length_filter_le _ _
    obtain ⟨h1, h2⟩ := row_put (W := w') (q := q) (ss := toL (l.filter fun s => !inB have_ s) ++ List.replicate (l.length - (toL (l.filter fun s => !inB have_ s)).length) []) (n := l.length) (n' := (toL (l.filter fun s => !inB have_ s)).length) (l := l.filter fun s => !inB have_ s) (os := #[]) e2 e3 e4 e5 (by omega) (by simp; omega) hle (by rw [toL_len]) (by
      rw [List.take_left' rfl]) (by rw [grow_empty]; exact hw)
    exact ⟨_, rfl, h1, h2, fun h => (by cases h)⟩
/-- What Missing's two results are. -/
def MissRes (zs : List Nx) (have_ : List ByteArray) (base : Nat) (w' : World) (v er : Value) : Prop :=
  (¬ (names zs).Nodup ∧ v = .slice none 0 0 ∧ er = .iface 48 (.int .i64 12)) ∨
  ((names zs).Nodup ∧ ∃ l, Lin ltB (nds zs) l ∧ ((l.length < zs.length ∧ v = .slice none 0 0 ∧ er = .iface 48 (.int .i64 11)) ∨ (l.length = zs.length ∧ er = .nilIface ∧ SRow base w' v (l.filter fun s => !inB have_ s))))
def MissPost (zs : List Nx) (have_ : List ByteArray) (w : World) (e : Ending) (w' : World) : Prop := ∃ v er, e = .returned (.tuple #[v, er]) ∧ MissRes zs have_ w.heap.size w' v er ∧ Below w.heap.size w w'
/-- The list of Linear's results, whichever. -/
theorem lin_row {zs : List Nx} {base : Nat} {w : World} {v er : Value} (h : LinRes zs base w v er) : ∃ l, SRow base w v l ∧ l.length ≤ zs.length ∧ ((¬ (names zs).Nodup ∧ v = .slice none 0 0 ∧ er = .iface 48 (.int .i64 12)) ∨
    ((names zs).Nodup ∧ ∃ l', Lin ltB (nds zs) l' ∧ ((l'.length < zs.length ∧ v = .slice none 0 0 ∧ er = .iface 48 (.int .i64 11)) ∨ (l' = l ∧ l'.length = zs.length ∧ er = .nilIface)))) := by
  rcases h with ⟨hn, rfl, rfl⟩ | ⟨hn, l, hl, ⟨hlt, rfl, rfl⟩ | ⟨hle, rfl, hr⟩⟩
  · exact ⟨[], SRow.nil _ _, Nat.zero_le _, .inl ⟨hn, rfl, rfl⟩⟩
  · exact ⟨[], SRow.nil _ _, Nat.zero_le _, .inr ⟨hn, l, hl, .inl ⟨hlt, rfl, rfl⟩⟩⟩
  · exact ⟨l, hr, by omega, .inr ⟨hn, l, hl, .inr ⟨rfl, hle, rfl⟩⟩⟩
set_option maxHeartbeats 1000000 in
theorem missing_c (A : Option Addr) (c : Nat) (zs : List Nx) (Ah : Option Addr) (ch : Nat) (have_ : List ByteArray) (w : World) (hS : SetAt w A c zs) (hz : zs.length ≤ 1000) (hd : ∀ z ∈ zs, z.deps.length ≤ 1000) (hT : TAt w Ah ch have_) :
    Calls Tryd.prog 13 #[.slice A zs.length c, .slice Ah have_.length ch] w (MissPost zs have_ w) := by
  have hmf : ∀ (fn : Fn) (first cap : Array Value) (w : World), (Instr.makeFunc fn first cap).run Tryd.prog w = .ok (.func fn first cap) w := fun _ _ _ _ => rfl
  obtain ⟨w0, hw0⟩ : ∃ w0, w0 = w.alloc (.cells #[.slice Ah have_.length ch] 25) := ⟨_, rfl⟩
  have hb0 : Below w.heap.size w w0 := by rw [hw0]; exact (Below.refl _ _).alloc (Nat.le_refl _) _
  have hl := Lib.hid (linear2_c A c zs w0 (hS.below hb0) hz hd)
  have hT0 := Lib.hid (hT.below hb0)
  have hH0 := Lib.hid (show w0.heap[w.heap.size]? = some (.cells #[.slice Ah have_.length ch] 25 (0, 0)) by rw [hw0]; exact heap_alloc_at _ _)
  have hs0 := Lib.hid (show w0.heap.size = w.heap.size + 1 by rw [hw0, St.size_alloc])
  have hA := Lib.hid hT.lt
  replace hb0 := Lib.hid hb0
  replace hw0 := Lib.hid hw0
  have hzH := Lib.hid hz
  clear hS hz hd hT
  go_enter Tryd.func13, Tryd.ntmps13
  go_wp2_with fail
  rw [← hw0.out]
  refine hl.out.mono ?_
  rintro e w1 ⟨v, er, rfl, hr, hb⟩
  obtain ⟨l, hrow, hll, hres⟩ := lin_row hr
  have hT1 := hT0.out.below hb
  have hlt0 : w.heap.size < w0.heap.size := by rw [hs0.out]; omega
  have hH1 : w1.heap[w.heap.size]? = some (.cells #[.slice Ah have_.length ch] 25 (0, 0)) := (hb.block _ hlt0).trans hH0.out
  have hdel := Lib.hid (del_c hrow (by have := hzH.out; omega) hT1 (fun a ha h0 => Nat.lt_trans (hA.out a ha h0) hlt0) hH1 hlt0)
  replace hr := Lib.hid hr
  replace hb := Lib.hid hb
  replace hrow := Lib.hid hrow
  replace hres := Lib.hid hres
  clear hT1 hH1 hlt0 hll
  go_wp2_with fail
  refine hdel.out.mono ?_
  rintro e w2 ⟨v', rfl, hr2, hg2, hnil⟩
  replace hr2 := Lib.hid hr2
  replace hg2 := Lib.hid hg2
  replace hnil := Lib.hid hnil
  go_wp2_with fail
  go_ret2
  have hsz : w.heap.size ≤ w0.heap.size := by rw [hs0.out]; omega
  have hbig : Below w0.heap.size w0 w2 := below_grew hb.out hb.out.size hg2.out (fun k hk => (hrow.out.lt k hk).1)
  refine ⟨v', er, rfl, ?_, hb0.out.trans (hbig.mono hsz)⟩
  rcases hres.out with ⟨h1, h2, h3⟩ | ⟨h1, l', h2, ⟨h3, h4, h5⟩ | ⟨rfl, h4, h5⟩⟩
  · exact .inl ⟨h1, hnil.out h2, h3⟩
  · exact .inr ⟨h1, l', h2, .inl ⟨h3, hnil.out h4, h5⟩⟩
  · exact .inr ⟨h1, l', h2, .inr ⟨h4, h5, hr2.out.base (fun q hq => Nat.le_trans hsz (hr2.out.lt q hq).1)⟩⟩
end Go.Proofs.YtalkhiggapbfjaaDoor.Orp
