/- The walk of net.Spoil. -/
import Derived.Test.YtpecclcihefbaaaNetG
import Derived.Lib.ConvBytes
import Derived.Laws.IdiomStrings
import Derived.Laws.BytesArg
import Derived.Deep.RegionLaw
import Derived.Deep.DeepCutAuto
import Derived.Laws.BitsLemmas
set_option linter.unusedVariables false
set_option linter.unusedSimpArgs false
namespace Go.Proofs.Ytpecclcihefbaaa.NetA
open Go.RowKit Go.Proofs.Ytpecclcihefbaaa.B

theorem some_no (i j : Int) (w : World) (σ : Shape) (Q : Qs) (h : NetQ w σ Q) (hn : ¬ There σ.n i j ∨ (Q i.toNat j.toNat).length = 0) :
    Calls Try.prog 20 #[.pointer (some ⟨σ.nb, 0, none⟩), .int .i64 i, .int .i64 j] w fun e w' => e = .returned (.pointer none) ∧ w = w' := by
  by_cases ht : There σ.n i j
  · rcases hn with hn | hn
    · exact absurd ht hn
    · obtain ⟨⟨a1, a2⟩, ⟨a3, a4⟩, a5⟩ := ht
      obtain ⟨m, rfl⟩ := Int.eq_ofNat_of_zero_le a1
      obtain ⟨k, rfl⟩ := Int.eq_ofNat_of_zero_le a3
      exact some_empty m k w σ Q h (by omega) (by omega) (by omega) hn
  · exact some_none i j w σ Q h ht

set_option maxRecDepth 100000 in
set_option maxHeartbeats 400000 in
theorem spoil_no (i j a b : Int) (w : World) (σ : Shape) (Q : Qs) (h : NetQ w σ Q) (hn : ¬ There σ.n i j ∨ (Q i.toNat j.toNat).length = 0) :
    Calls Try.prog 14 #[.pointer (some ⟨σ.nb, 0, none⟩), .int .i64 i, .int .i64 j, .int .i64 a, .int .i64 b] w fun e w' => e = .returned (.bool false) ∧ ∃ n, w' = w.drewN n := by
  have C := Lib.hid (some_no i j w σ Q h hn)
  clear h hn
  go_enter Try.func14, Try.ntmps14
  go_wp2_with (go_at_call 20; refine (C.out).mono ?_; rintro e w' ⟨rfl, rfl⟩)
  go_quiet (fail)
  go_wp2
  go_ret
  exact ⟨rfl, _, rfl⟩

/-- The head of a queue as it lies. -/
theorem head_at {w : World} {b : Nat} {x : Tx} {r : List Tx} (h : WayQ w b (x :: r)) :
    ∃ L first, Ring w b L first (x :: r).length ∧ L.getD first d0 = x ∧ first < 200 ∧ ∀ k, k < (x :: r).length → L.getD ((first + k) % 200) d0 = (x :: r).getD k d0 := by
  obtain ⟨L, first, hr, hk⟩ := h
  have hfl := hr.fl
  refine ⟨L, first, hr, ?_, hfl, hk⟩
  have := hk 0 (by simp)
  rw [show (first + 0) % 200 = first from by omega] at this
  simpa using this

set_option maxRecDepth 100000 in
set_option maxHeartbeats 1000000 in
theorem spoil_skip (i j : Nat) (a b : Int) (x : Tx) (r : List Tx) (w : World) (σ : Shape) (Q : Qs) (h : NetQ w σ Q) (hi : i < σ.n) (hj : j < σ.n) (hn : i ≠ j) (hq : Q i j = x :: r) (hs : x.1.toList = [] ∨ x.2 = true) :
    Calls Try.prog 14 #[.pointer (some ⟨σ.nb, 0, none⟩), .int .i64 i, .int .i64 j, .int .i64 a, .int .i64 b] w fun e w' => e = .returned (.bool false) ∧ ∃ n, w' = w.drewN n := by
  have C := Lib.hid (some_some i j w σ Q h hi hj hn (by rw [hq]; simp))
  have hw := h.q i j hi hj hn
  rw [hq] at hw
  obtain ⟨L, first, hr, hx, hfl, _⟩ := head_at hw
  have hcs := ring_s hr first hfl
  have hco := ring_o hr first hfl
  have hcf := ring_first hr
  rw [hx] at hcs hco
  have hfi : (first : Int) < 200 := by omega
  have hf0 : (0 : Int) ≤ (first : Int) := by omega
  obtain ⟨s, o⟩ := x
  simp only at *
  clear h hn hq hw hr hx
  by_cases he : s.toList = []
  · have he1 : s.toList.isEmpty = true := by simp [he]
    clear hs he
    go_enter Try.func14, Try.ntmps14
    go_wp2_with (go_at_call 20; refine (C.out).mono ?_; rintro e w' ⟨rfl, rfl⟩)
    go_quiet (fail)
    go_wp2
    go_ret
    exact ⟨rfl, _, rfl⟩
  · have he1 : s.toList.isEmpty = false := by simp [he]
    obtain rfl : o = true := hs.resolve_left he
    clear hs he
    go_enter Try.func14, Try.ntmps14
    go_wp2_with (go_at_call 20; refine (C.out).mono ?_; rintro e w' ⟨rfl, rfl⟩)
    go_quiet (fail)
    go_wp2
    go_ret
    exact ⟨rfl, _, rfl⟩


/-- The byte that is turned, and what it becomes. -/
def spIx (n : Nat) (a : Int) : Nat := ((a.tmod n + n).tmod n).toNat
def spBy (b : Int) : Int := wrap64 ((wrap64 (b.tmod 255 + 255)).tmod 255 + 1) % 256
/-- The bytes as numbers. -/
def ints (s : ByteArray) : List Int := s.data.toList.map fun c => (c.toNat : Int)
def spInts (s : ByteArray) (a b : Int) : List Int := (ints s).set (spIx s.size a) (bits .xor .u8 ((ints s)[spIx s.size a]?.getD 0) (spBy b))
def spoilt (s : ByteArray) (a b : Int) : ByteArray := strOfNums (spInts s a b)

theorem ix_bounds (n : Nat) (h : 0 < n) (hn : n ≤ 140737488351232) (a : Int) : (wrap64 (a.tmod n + n)).tmod n = (spIx n a : Int) ∧ spIx n a < n := by
  have h1 : -(n : Int) < a.tmod n := Int.lt_tmod_of_pos a (by omega)
  have h2 : a.tmod n < n := Int.tmod_lt_of_pos a (by omega)
  have e : wrap64 (a.tmod n + n) = a.tmod n + n := by
    generalize a.tmod n = z at *
    unfold wrap64; omega
  rw [e]
  have h3 : 0 ≤ (a.tmod n + n).tmod n := Int.tmod_nonneg _ (by omega)
  have h4 : (a.tmod n + n).tmod n < n := Int.tmod_lt_of_pos _ (by omega)
  unfold spIx
  generalize (a.tmod n + n).tmod n = z at *
  omega

/-- A slice of new memory that holds a text's bytes. -/
def Buf (w wc : World) (s : ByteArray) (sl : Value) : Prop :=
  ∃ (g cap : Nat), sl = .slice (some ⟨g, 0, none⟩) s.size cap ∧ (∀ k, k < s.size → wc.cell? ⟨g, k, none⟩ = some (.int .u8 ((ints s).getD k 0)) ∧ wc.frozen? ⟨g, k, none⟩ = false) ∧ w.heap.size ≤ g ∧ Tch (fun _ => False) w wc

theorem ints_length (s : ByteArray) : (ints s).length = s.size := by simp [ints]
theorem ints_at (s : ByteArray) (k : Nat) (h : k < s.size) : (ints s).getD k 0 = ((s.data[k]'h).toNat : Int) := by
  unfold ints
  rw [List.getD_eq_getElem?_getD, List.getElem?_map, List.getElem?_eq_getElem (by simpa using h)]
  simp

theorem buf_of (w : World) (s : ByteArray) (cap n : Nat) : Buf w ((w.alloc (.cells (bytesRow s cap) 5 ((bytesRow s cap).size, (bytesRow s cap).size + 1))).drewN n) s (.slice (some ⟨w.heap.size, 0, none⟩) s.size cap) := by
  have hb := heap_alloc_at w (.cells (bytesRow s cap) 5 ((bytesRow s cap).size, (bytesRow s cap).size + 1))
  refine ⟨_, cap, rfl, fun k hk => ⟨?_, ?_⟩, Nat.le_refl _, ((Tch.refl _ w).alloc _).drewN n⟩
  · rw [World.cell?_drewN, cell_of hb, ints_at s k hk]; exact bytesRow_at s cap k hk
  · have : s.size ≤ (bytesRow s cap).size := by simp [bytesRow]
    rw [World.frozen?_drewN]
    unfold World.frozen?
    simp only [hb]
    have : decide ((bytesRow s cap).size ≤ k) = false := by simp; omega
    rw [this]; rfl

/-- The same, a byte turned. -/
def Buf2 (w wc : World) (s : ByteArray) (a b : Int) (g : Nat) : Prop :=
  (∀ k, k < s.size → wc.cell? ⟨g, k, none⟩ = some (.int .u8 ((spInts s a b).getD k 0))) ∧ w.heap.size ≤ g ∧ Tch (fun _ => False) w wc
theorem buf2_of {w wc : World} {s : ByteArray} {a b : Int} {g : Nat} (hg : ∀ k, k < s.size → wc.cell? ⟨g, k, none⟩ = some (.int .u8 ((ints s).getD k 0)) ∧ wc.frozen? ⟨g, k, none⟩ = false) (hI : spIx s.size a < s.size) (hgl : w.heap.size ≤ g) (ht : Tch (fun _ => False) w wc) :
    Buf2 w (wc.setCell ⟨g, spIx s.size a, none⟩ (.int .u8 (bits .xor .u8 ((ints s)[spIx s.size a]?.getD 0) (wrap64 ((wrap64 (b.tmod 255 + 255)).tmod 255 + 1) % 256)))) s a b g := by
  refine ⟨fun k hk => ?_, hgl, ht.setNew _ hgl _⟩
  unfold spInts
  rw [List.getD_eq_getElem?_getD, List.getElem?_set]
  by_cases e : spIx s.size a = k
  · subst e
    rw [if_pos rfl, if_pos (by rw [ints_length]; exact hk), World.cell?_setCell_same _ _ _ (hg _ hk).1]; rfl
  · rw [if_neg e, World.cell?_setCell_other _ _ _ _ (by intro h; injection h with _ h; exact e h), (hg k hk).1, List.getD_eq_getElem?_getD]

set_option maxRecDepth 100000 in
set_option maxHeartbeats 1000000 in
theorem spoil_do (i j : Nat) (a b : Int) (s : ByteArray) (r : List Tx) (w : World) (σ : Shape) (Q : Qs) (h : NetQ w σ Q) (hi : i < σ.n) (hj : j < σ.n) (hn : i ≠ j) (hq : Q i j = (s, false) :: r) (hs : s.toList ≠ [])
    (hsz : s.size ≤ 140737488351232) :
    Calls Try.prog 14 #[.pointer (some ⟨σ.nb, 0, none⟩), .int .i64 i, .int .i64 j, .int .i64 a, .int .i64 b] w (fun e w' => NPost σ (.bool true) (upd Q i j ((spoilt s a b, true) :: r)) w e w') := by
  have C := Lib.hid (some_some i j w σ Q h hi hj hn (by rw [hq]; simp))
  have hw := h.q i j hi hj hn
  rw [hq] at hw
  have hpos : 0 < s.size := by
    rcases Nat.eq_zero_or_pos s.size with e | e
    · exact absurd (by
        have : s.data.toList = [] := List.eq_nil_of_length_eq_zero (by simpa using e)
        simpa [ByteArray.toList_eq] using this) hs
    · exact e
  obtain ⟨L, first, hr, hx, hfl, hkk⟩ := head_at hw
  have hcs := ring_s hr first hfl
  have hco := ring_o hr first hfl
  have hcf := ring_first hr
  have f1 := fr_of hr.blk (first * 2)
  have f2 := fr_of hr.blk (first * 2 + 1)
  have hlb := hr.lt
  rw [hx] at hcs hco
  have hfi : (first : Int) < 200 := by omega
  have hf0 : (0 : Int) ≤ (first : Int) := by omega
  have he1 : s.toList.isEmpty = false := by simp [hs]
  have hcv : ∀ W : World, (convert 9 41 (.string s)).run Try.prog W = .ok (.slice (some ⟨W.heap.size, 0, none⟩) s.size (grownCap W s.size 0 5))
      (W.drew.alloc (.cells (bytesRow s (grownCap W s.size 0 5)) 5 ((bytesRow s (grownCap W s.size 0 5)).size, (bytesRow s (grownCap W s.size 0 5)).size + 1))) := fun W =>
    run_bytes_of_string W 9 41 5 s Try.underlying9 Try.underlying41 Try.underlying5
  obtain ⟨hI, hIl⟩ := ix_bounds s.size hpos hsz a
  have Fin : ∀ (wc : World) (s' : ByteArray), Tch (fun _ => False) w wc → NPost σ (.bool true) (upd Q i j ((s', true) :: r)) w (.returned (.bool true)) ((wc.setCell ⟨σ.wb i j, first * 2, none⟩ (.string s')).setCell ⟨σ.wb i j, first * 2 + 1, none⟩ (.bool true)).drew := by
    intro wc s' htc
    have hb := htc.heap hr.blk (fun e => e)
    have h1 := heap_set_some (heap_set_some hb (first * 2) (.string s')) (first * 2 + 1) (.bool true)
    rw [ringA_set _ _ _ _ (s', true) (by rw [hr.len]; exact hfl)] at h1
    have htt : Tch (fun k => k = σ.wb i j) w ((wc.setCell ⟨σ.wb i j, first * 2, none⟩ (.string s')).setCell ⟨σ.wb i j, first * 2 + 1, none⟩ (.bool true)).drew :=
      (((htc.mono (S' := fun k => k = σ.wb i j) (fun _ h => h.elim)).setCell ⟨σ.wb i j, _, none⟩ (fun _ => rfl) _).setCell ⟨σ.wb i j, _, none⟩ (fun _ => rfl) _).drew
    refine ⟨rfl, h.set hi hj hn htt ⟨L.set first (s', true), first, ⟨h1, by simp [hr.len], hfl, hr.nl⟩, fun k hk => ?_⟩, Tch.way hi hj hn htt⟩
    rw [getD_set _ _ _ _ (by rw [hr.len]; exact hfl)]
    have hnl := hr.nl
    simp only [List.length_cons] at hk hnl
    by_cases e : k = 0
    · subst e; rw [if_pos (by omega)]; rfl
    · rw [if_neg (by omega), hkk k (by simp; omega)]
      obtain ⟨m, rfl⟩ : ∃ m, k = m + 1 := ⟨k - 1, by omega⟩
      rfl
  have FinH := Lib.hid Fin
  have hn0 : ((s.size : Int) == 0) = false := by
    have : (s.size : Int) ≠ 0 := by omega
    simpa using this
  simp only at *
  clear h hn hq hw hr hx hs hkk Fin
  go_enter Try.func14, Try.ntmps14
  go_wp2_with (go_at_call 20; refine (C.out).mono ?_; rintro e w' ⟨rfl, rfl⟩)
  go_quiet (fail)
  go_wp2
  go_cut [12] (fun sl wc => Buf w wc s sl)
  case first =>
    go_region
    all_goals (try go_wp2_with fail)
    all_goals go_meet
    all_goals exact buf_of w s _ (nq + 1 + 1)
  case rest =>
    obtain ⟨g, cap, rfl, hg, hgl, ht⟩ := hcut
    have hgc := (hg _ hIl).1
    have hgf := (hg _ hIl).2
    have hgH := Lib.hid hg
    have htH := Lib.hid ht
    have hI0 : (0 : Int) ≤ (spIx s.size a : Int) := by omega
    have hI1 : (spIx s.size a : Int) < (s.size : Int) := by omega
    clear hg ht hcv
    go_upto_region 6 with (fail)
    go_cut [] (fun w2 => Buf2 w w2 s a b g)
    case first =>
      go_wp2
      go_meet
      exact buf2_of hgH.out hIl hgl htH.out
    case rest =>
      clear hgH htH hgc hgf
      obtain ⟨hc2, _, ht2⟩ := hcut
      have htc := Lib.hid ht2
      have hcb : ∀ n, (convert 41 9 (.slice (some ⟨g, 0, none⟩) s.size cap)).run Try.prog (wc.drewN n) = .ok (.string (spoilt s a b)) (wc.drewN n) := fun n =>
        run_convert_bytes_arg (wc.drewN n) 41 5 Try.underlying41 Try.underlying5 g 0 s.size cap (spInts s a b) (by simp [spInts, ints_length])
          (fun k hk => by rw [Nat.zero_add]; exact hc2 k hk) 9 Try.underlying9
      have hcb1 := hcb 1
      rw [show wc.drewN 1 = wc.drew from rfl] at hcb1
      have hcs2 := ht2.cell hcs (fun e => e)
      have hco2 := ht2.cell hco (fun e => e)
      have hcf2 := ht2.cell hcf (fun e => e)
      have g1 : wc.frozen? ⟨σ.wb i j, first * 2, none⟩ = false := (World.frozen?_of_block (ht2.block _ hlb (fun e => e))).trans f1
      have g2 : wc.frozen? ⟨σ.wb i j, first * 2 + 1, none⟩ = false := (World.frozen?_of_block (ht2.block _ hlb (fun e => e))).trans f2
      clear hcb hc2 ht2 hcs hco hcf f1 f2 hI hIl hI0 hI1 hn0 hsz hgl
      go_wp2
      go_region
      all_goals go_wp2
      all_goals go_ret
      all_goals exact FinH.out _ _ htc.out

end Go.Proofs.Ytpecclcihefbaaa.NetA
