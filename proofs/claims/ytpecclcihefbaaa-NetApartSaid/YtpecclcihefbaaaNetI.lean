/- tambourlaw18.NetFull: the walk. -/
import Derived.Test.YtpecclcihefbaaaNetH
import Derived.Test.YtpecclcihefbaaaArgs
import Derived.Deep.DeepCutAuto
import Derived.Deep.LoopGhost
set_option linter.unusedVariables false
set_option linter.unusedSimpArgs false
namespace Go.Proofs.Ytpecclcihefbaaa.NetA
open Go.RowKit Go.Proofs.Ytpecclcihefbaaa.B

/-- Three peers: what is on the ways 0 to 1 and 1 to 2; nothing else is on a way. -/
def Lw (σ : Shape) (w0 : World) (q01 q12 : List Tx) (w : World) : Prop :=
  ∃ Q, NetQ w σ Q ∧ Q 0 1 = q01 ∧ Q 1 2 = q12 ∧ (∀ i j, ¬ (i = 0 ∧ j = 1) → ¬ (i = 1 ∧ j = 2) → Q i j = []) ∧ Below w0.heap.size w0 w

structure Three (σ : Shape) (w0 : World) : Prop where
  n : σ.n = 3
  fr : ∀ k, σ.own k → w0.heap.size ≤ k

theorem Three.below {σ : Shape} {w0 w w' : World} (t : Three σ w0) (hb : Below w0.heap.size w0 w) (ht : Tch σ.own w w') : Below w0.heap.size w0 w' :=
  hb.trans (ht.below hb.size fun k hk _ => t.fr k hk)

theorem lw_send01 {σ : Shape} {w0 w : World} {q01 q12 : List Tx} (t : Three σ w0) (h : Lw σ w0 q01 q12 w) (s : ByteArray) (hl : q01.length < 200) :
    Calls Try.prog 8 #[.pointer (some ⟨σ.nb, 0, none⟩), .int .i64 0, .int .i64 1, .string s] w fun e w' => e = .returned (.bool true) ∧ Lw σ w0 (q01 ++ [(s, false)]) q12 w' := by
  obtain ⟨Q, h1, h2, h3, h4, h5⟩ := h
  refine (show Calls Try.prog 8 #[.pointer (some ⟨σ.nb, 0, none⟩), .int .i64 0, .int .i64 1, .string s] w (SendPost σ Q 0 1 (q01 ++ [(s, false)]) w) from send_room 0 1 s w σ Q h1 (by have := t.n; omega) (by have := t.n; omega) (by omega) q01 h2 hl).mono ?_
  rintro e w' ⟨rfl, k1, k2⟩
  exact ⟨rfl, _, k1, upd_same _ _ _ _, by rw [upd_other _ _ _ _ _ _ (by omega)]; exact h3, fun i j a b => by rw [upd_other _ _ _ _ _ _ a]; exact h4 i j a b, t.below h5 k2⟩

theorem lw_send12 {σ : Shape} {w0 w : World} {q01 q12 : List Tx} (t : Three σ w0) (h : Lw σ w0 q01 q12 w) (s : ByteArray) (hl : q12.length < 200) :
    Calls Try.prog 8 #[.pointer (some ⟨σ.nb, 0, none⟩), .int .i64 1, .int .i64 2, .string s] w fun e w' => e = .returned (.bool true) ∧ Lw σ w0 q01 (q12 ++ [(s, false)]) w' := by
  obtain ⟨Q, h1, h2, h3, h4, h5⟩ := h
  refine (show Calls Try.prog 8 #[.pointer (some ⟨σ.nb, 0, none⟩), .int .i64 1, .int .i64 2, .string s] w (SendPost σ Q 1 2 (q12 ++ [(s, false)]) w) from send_room 1 2 s w σ Q h1 (by have := t.n; omega) (by have := t.n; omega) (by omega) q12 h3 hl).mono ?_
  rintro e w' ⟨rfl, k1, k2⟩
  exact ⟨rfl, _, k1, by rw [upd_other _ _ _ _ _ _ (by omega)]; exact h2, upd_same _ _ _ _, fun i j a b => by rw [upd_other _ _ _ _ _ _ b]; exact h4 i j a b, t.below h5 k2⟩

theorem lw_full01 {σ : Shape} {w0 w : World} {q01 q12 : List Tx} (t : Three σ w0) (h : Lw σ w0 q01 q12 w) (s : ByteArray) (hl : q01.length = 200) :
    Calls Try.prog 8 #[.pointer (some ⟨σ.nb, 0, none⟩), .int .i64 0, .int .i64 1, .string s] w fun e w' => e = .returned (.bool false) ∧ Lw σ w0 q01 q12 w' := by
  obtain ⟨Q, h1, h2, h3, h4, h5⟩ := h
  have hn := t.n
  refine (show Calls Try.prog 8 #[.pointer (some ⟨σ.nb, 0, none⟩), .int .i64 0, .int .i64 1, .string s] w _ from send_in 0 1 s w σ Q h1 (by omega) (by omega) (by omega)).mono ?_
  rintro e w' ⟨rfl, k1, k2⟩
  have hp : pushed (Q 0 1) (s, false) = q01 := by rw [h2]; exact if_neg (by omega)
  rw [hp] at k1
  refine ⟨by rw [roomy, h2, decide_eq_false (by omega)], _, k1, upd_same _ _ _ _, by rw [upd_other _ _ _ _ _ _ (by omega)]; exact h3, fun i j a b => by rw [upd_other _ _ _ _ _ _ a]; exact h4 i j a b, t.below h5 k2⟩

theorem lw_double {σ : Shape} {w0 w : World} {q01 q12 : List Tx} (t : Three σ w0) (h : Lw σ w0 q01 q12 w) (hl : q01.length = 200) :
    Calls Try.prog 9 #[.pointer (some ⟨σ.nb, 0, none⟩), .int .i64 0, .int .i64 1] w fun e w' => e = .returned (.bool false) ∧ Lw σ w0 q01 q12 w' := by
  obtain ⟨Q, h1, h2, h3, h4, h5⟩ := h
  have hn := t.n
  obtain ⟨x, r, e⟩ : ∃ x r, q01 = x :: r := by
    cases q01 with
    | nil => simp at hl
    | cons x r => exact ⟨x, r, rfl⟩
  refine (show Calls Try.prog 9 #[.pointer (some ⟨σ.nb, 0, none⟩), .int .i64 0, .int .i64 1] w _ from double_in 0 1 x r w σ Q h1 (by omega) (by omega) (by omega) (h2.trans e)).mono ?_
  rintro e w' ⟨rfl, k1, k2⟩
  have hp : pushed (Q 0 1) x = q01 := by rw [h2]; exact if_neg (by omega)
  rw [hp] at k1
  refine ⟨by rw [roomy, h2, decide_eq_false (by omega)], _, k1, upd_same _ _ _ _, by rw [upd_other _ _ _ _ _ _ (by omega)]; exact h3, fun i j a b => by rw [upd_other _ _ _ _ _ _ a]; exact h4 i j a b, t.below h5 k2⟩

theorem lw_turn {σ : Shape} {w0 w : World} {x : Tx} {r q12 : List Tx} (t : Three σ w0) (h : Lw σ w0 (x :: r) q12 w) :
    Calls Try.prog 12 #[.pointer (some ⟨σ.nb, 0, none⟩), .int .i64 0, .int .i64 1] w fun e w' => e = .returned (.bool true) ∧ Lw σ w0 (r ++ [x]) q12 w' := by
  obtain ⟨Q, h1, h2, h3, h4, h5⟩ := h
  have hn := t.n
  refine (show Calls Try.prog 12 #[.pointer (some ⟨σ.nb, 0, none⟩), .int .i64 0, .int .i64 1] w _ from turn_in 0 1 x r w σ Q h1 (by omega) (by omega) (by omega) h2).mono ?_
  rintro e w' ⟨rfl, k1, k2⟩
  exact ⟨rfl, _, k1, upd_same _ _ _ _, by rw [upd_other _ _ _ _ _ _ (by omega)]; exact h3, fun i j a b => by rw [upd_other _ _ _ _ _ _ a]; exact h4 i j a b, t.below h5 k2⟩

theorem lw_take {σ : Shape} {w0 w : World} {x : Tx} {r q12 : List Tx} (t : Three σ w0) (h : Lw σ w0 (x :: r) q12 w) :
    Calls Try.prog 13 #[.pointer (some ⟨σ.nb, 0, none⟩), .int .i64 0, .int .i64 1] w fun e w' => e = .returned (.tuple #[.string x.1, .bool true]) ∧ Lw σ w0 r q12 w' := by
  obtain ⟨Q, h1, h2, h3, h4, h5⟩ := h
  have hn := t.n
  refine (show Calls Try.prog 13 #[.pointer (some ⟨σ.nb, 0, none⟩), .int .i64 0, .int .i64 1] w _ from take_in 0 1 x r w σ Q h1 (by omega) (by omega) (by omega) h2).mono ?_
  rintro e w' ⟨rfl, k1, k2⟩
  exact ⟨rfl, _, k1, upd_same _ _ _ _, by rw [upd_other _ _ _ _ _ _ (by omega)]; exact h3, fun i j a b => by rw [upd_other _ _ _ _ _ _ a]; exact h4 i j a b, t.below h5 k2⟩

theorem lw_len {σ : Shape} {w0 w : World} {q01 q12 : List Tx} (t : Three σ w0) (h : Lw σ w0 q01 q12 w) :
    Calls Try.prog 10 #[.pointer (some ⟨σ.nb, 0, none⟩), .int .i64 0, .int .i64 1] w fun e w' => e = .returned (.int .i64 q01.length) ∧ w = w' := by
  obtain ⟨Q, h1, h2, h3, h4, h5⟩ := h
  have hn := t.n
  have := len_in 0 1 w σ Q h1 (by omega) (by omega) (by omega)
  rw [h2] at this; exact this
theorem lw_all {σ : Shape} {w0 w : World} {q01 q12 : List Tx} (t : Three σ w0) (h : Lw σ w0 q01 q12 w) :
    Calls Try.prog 11 #[.pointer (some ⟨σ.nb, 0, none⟩)] w fun e w' => e = .returned (.int .i64 (q01.length + q12.length : Nat)) ∧ w = w' := by
  obtain ⟨Q, h1, h2, h3, h4, h5⟩ := h
  have := all_any w σ Q h1
  rw [t.n] at this
  have e : allSum Q 3 3 = q01.length + q12.length := by
    simp [allSum, rowSum, lenOf, h2, h3, h4 0 2 (by omega) (by omega), h4 1 0 (by omega) (by omega), h4 2 0 (by omega) (by omega), h4 2 1 (by omega) (by omega)]
  rw [e] at this; exact this

def other : ByteArray := ⟨#[111, 116, 104, 101, 114]⟩
def cyc (ss : List ByteArray) (m k : Nat) : Tx := (ss.getD (k % m) ByteArray.empty, false)
def cycs (ss : List ByteArray) (m k : Nat) : List Tx := (List.range k).map (cyc ss m)
theorem cycs_succ (ss : List ByteArray) (m k : Nat) : cycs ss m (k + 1) = cycs ss m k ++ [cyc ss m k] := by simp [cycs, List.range_succ]
theorem cycs_length (ss : List ByteArray) (m k : Nat) : (cycs ss m k).length = k := by simp [cycs]
theorem cycs_200 (ss : List ByteArray) (m : Nat) : ∃ r, cycs ss m 200 = cyc ss m 0 :: cyc ss m 1 :: r ∧ r.length = 198 := by
  refine ⟨((List.range 198).map (· + 2)).map (cyc ss m), ?_, by simp⟩
  have : List.range 200 = 0 :: 1 :: (List.range 198).map (· + 2) := by decide +kernel
  rw [cycs, this]; rfl

/-- The loop's state. -/
def FullAt (σ : Shape) (w0 : World) (ss : List ByteArray) (m k : Nat) (w : World) : Prop := Lw σ w0 (cycs ss m k) (List.replicate k (other, false)) w

set_option maxRecDepth 100000 in
set_option maxHeartbeats 2000000 in
theorem full_walk (b off len cap : Nat) (ss : List ByteArray) (w : World) (hl : 0 < len) (hc : len ≤ cap) (hm : cap ≤ maxLen)
    (hr : ∀ j, j < len → w.cell? ⟨b, off + j, none⟩ = some (.string (ss.getD j ByteArray.empty))) :
    Calls Try.prog 3 #[.slice (some ⟨b, off, none⟩) len cap] w fun e w' => e = .returned (.bool true) ∧ Below w.heap.size w w' := by
  have C0 := Lib.hid (awake_any w)
  unfold maxLen at hm
  have hne : ((len : Int) == 0) = false := by simp; omega
  obtain ⟨m, hm0, hml, hm20, hmm⟩ : ∃ m, 0 < m ∧ m ≤ len ∧ m ≤ 20 ∧ ((len ≤ 20 → m = len) ∧ (20 ≤ len → m = 20)) := by
    by_cases h : len ≤ 20
    · exact ⟨len, by omega, by omega, h, fun _ => rfl, fun _ => by omega⟩
    · exact ⟨20, by omega, by omega, by omega, fun _ => by omega, fun _ => rfl⟩
  have hmH := Lib.hid hmm
  clear hmm
  have hb0 := World.block_lt_of_cell? w _ (hr 0 hl)
  have hrH := Lib.hid (show ∀ j, j < m → w.cell? ⟨b, off + j, none⟩ = some (.string (ss.getD j ByteArray.empty)) from fun j hj => hr j (by omega))
  clear hr
  go_enter Try.func3, Try.ntmps3
  go_wp2_with fail
  refine (C0.out).mono ?_
  rintro e w1 ⟨rfl, hb1⟩
  have hb1 := Lib.hid hb1
  clear C0
  go_upto_region 5 with (fail)
  go_cut [0] (fun s wc => s = .slice (some ⟨b, off, none⟩) m cap ∧ wc = w1)
  case first =>
    go_wp2_with fail
    all_goals go_meet
    all_goals first | exact ⟨by rw [hmH.out.1 (by omega)], rfl⟩ | exact ⟨by rw [hmH.out.2 (by omega)], rfl⟩
  case rest =>
    obtain ⟨rfl, rfl⟩ := hcut
    clear hmH
    have C1 := Lib.hid (new_in 3 wc (by omega) (by omega))
    go_wp2_with fail
    refine (C1.out).mono ?_
    rintro e w2 ⟨σ, rfl, hσ, h2, ht2, hfr⟩
    have hs2 := hb1.out.size
    have t3 := Lib.hid (show Three σ w from ⟨hσ, fun k hk => Nat.le_trans hs2 (hfr k (.inr (.inr (.inr hk))))⟩)
    have hL := Lib.hid (show FullAt σ w ss m 0 w2 from ⟨_, h2, rfl, rfl, fun _ _ _ _ => rfl, hb1.out.trans (ht2.below hs2 fun _ h _ => h.elim)⟩)
    clear hfr h2 ht2 hσ C1 hb1 hs2
    have hbl : b < w.heap.size := hb0
    go_wp2
    go_loopg [24] 200 (fun g i wr => ∃ k : Nat, g = 200 - k ∧ k ≤ 200 ∧ i = .int .i64 k ∧ FullAt σ w ss m k wr)
    case atStart => exact ⟨0, rfl, by omega, rfl, hL.out⟩
    case round =>
      clear hL
      obtain ⟨k, hg, hk, rfl, hf⟩ := hrel
      subst hg
      have hbw : Below w.heap.size w wr := by obtain ⟨Q, _, _, _, _, h⟩ := hf; exact h
      by_cases hlt : k < 200
      · have hmod : k % m < m := Nat.mod_lt _ hm0
        have hcell : wr.cell? ⟨b, off + k % m, none⟩ = some (.string (ss.getD (k % m) ByteArray.empty)) := (hbw.cell (p := ⟨b, off + k % m, none⟩) hbl).trans (hrH.out _ hmod)
        have C1 := Lib.hid (lw_send01 t3.out hf (ss.getD (k % m) ByteArray.empty) (by rw [cycs_length]; exact hlt))
        have C2 := Lib.hid (fun (wx : World) (hx : Lw σ w (cycs ss m k ++ [(ss.getD (k % m) ByteArray.empty, false)]) (List.replicate k (other, false)) wx) => lw_send12 t3.out hx other (by simpa using hlt))
        clear hf hbw
        have C2 := Lib.hid (show ∀ (wx : World), Lw σ w (cycs ss m k ++ [(ss.getD (k % m) ByteArray.empty, false)]) (List.replicate k (other, false)) wx → Calls Try.prog 8 #[.pointer (some ⟨σ.nb, 0, none⟩), .int .i64 1, .int .i64 2, .string other] wx fun e w' => e = .returned (.bool true) ∧ FullAt σ w ss m (k + 1) w' from fun wx hx => (C2.out wx hx).mono fun e w' h => ⟨h.1, by
          have h2 := h.2
          unfold FullAt
          rw [cycs_succ, List.replicate_succ']; exact h2⟩)
        generalize ss.getD (k % m) ByteArray.empty = s at *
        have hmi : (0 : Int) < (m : Int) := by omega
        go_wp2_with fail
        refine (C1.out).mono ?_
        rintro e wa ⟨rfl, ha⟩
        have C3 := Lib.hid (C2.out wa ha)
        clear ha C1 C2
        go_wp2_with fail
        refine (C3.out).mono ?_
        rintro e wb ⟨rfl, hb⟩
        have hbH := Lib.hid hb
        clear hb C3
        go_wp2
        go_roundg (200 - (k + 1))
        case measure => omega
        case rel => exact ⟨k + 1, rfl, by omega, by go_num, hbH.out⟩
      · obtain rfl : k = 200 := by omega
        obtain ⟨r, hr, hrl⟩ := cycs_200 ss m
        unfold FullAt at hf
        rw [hr] at hf
        have hmod : 1 % m < m := Nat.mod_lt _ hm0
        have hc1 : cyc ss m 1 = (ss.getD (1 % m) ByteArray.empty, false) := rfl
        have hce : ∀ wx : World, Below w.heap.size w wx → wx.cell? ⟨b, off + 1 % m, none⟩ = some (.string (ss.getD (1 % m) ByteArray.empty)) := fun wx hx => (hx.cell (p := ⟨b, off + 1 % m, none⟩) hbl).trans (hrH.out _ hmod)
        rw [hc1] at hf
        have e1 : (1 % (m : Int)).toNat = 1 % m := by
          have : (1 % (m : Int)) = ((1 % m : Nat) : Int) := by simp
          rw [this]; rfl
        have e2 : (0 : Int) ≤ 1 % (m : Int) := Int.emod_nonneg _ (by omega)
        have e3 : (1 % (m : Int)) < (m : Int) := Int.emod_lt_of_pos _ (by omega)
        generalize cyc ss m 0 = c0 at *
        generalize ss.getD (1 % m) ByteArray.empty = s at *
        generalize 1 % m = p at *
        have hceH := Lib.hid hce
        have C1 := Lib.hid (lw_full01 t3.out hf ⟨#[120]⟩ (by simp [hrl]))
        have hmi : (0 : Int) < (m : Int) := by omega
        have hrlH := Lib.hid hrl
        clear hf hbw hr hrl hce hc1
        go_wp2_with fail
        refine (C1.out).mono ?_
        rintro e wa ⟨rfl, ha⟩
        have C2 := Lib.hid (lw_double t3.out ha (by simp [hrlH.out]))
        clear C1 ha
        go_wp2_with fail
        refine (C2.out).mono ?_
        rintro e wb ⟨rfl, hb⟩
        have C3 : Hid (Calls Try.prog 10 #[.pointer (some ⟨σ.nb, 0, none⟩), .int .i64 0, .int .i64 1] wb fun e w' => e = .returned (.int .i64 200) ∧ wb = w') := by
          have := lw_len t3.out hb
          rw [show (c0 :: (s, false) :: r).length = 200 from by simp [hrlH.out]] at this
          exact this
        have C4 : Hid (Calls Try.prog 11 #[.pointer (some ⟨σ.nb, 0, none⟩)] wb fun e w' => e = .returned (.int .i64 400) ∧ wb = w') := by
          have := lw_all t3.out hb
          rw [show (c0 :: (s, false) :: r).length = 200 from by simp [hrlH.out], List.length_replicate] at this
          exact this
        have C5 := Lib.hid (lw_turn t3.out hb)
        clear C2 hb
        go_wp2_with fail
        refine (C3.out).mono ?_
        rintro e wb2 ⟨rfl, rfl⟩
        go_wp2_with fail
        refine (C4.out).mono ?_
        rintro e wb3 ⟨rfl, rfl⟩
        go_wp2_with fail
        refine (C5.out).mono ?_
        rintro e wc ⟨rfl, hc⟩
        have C6 := Lib.hid (lw_take t3.out hc)
        clear C3 C4 C5 hc
        go_wp2_with fail
        refine (C6.out).mono ?_
        rintro e wd ⟨rfl, hd⟩
        have hbw : Below w.heap.size w wd := by obtain ⟨Q, _, _, _, _, h⟩ := hd; exact h
        have hcell := hceH.out wd hbw
        have C7 := Lib.hid (lw_send01 t3.out hd ⟨#[120]⟩ (by simp [hrlH.out]))
        clear C6 hd hbw
        go_wp2_with fail
        refine (C7.out).mono ?_
        rintro e we ⟨rfl, he⟩
        have C8 := Lib.hid (lw_full01 t3.out he ⟨#[121]⟩ (by simp [hrlH.out]))
        clear C7 he
        go_wp2_with fail
        refine (C8.out).mono ?_
        rintro e wf ⟨rfl, hf⟩
        have hbf := Lib.hid (show Below w.heap.size w wf from by obtain ⟨Q, _, _, _, _, h⟩ := hf; exact h)
        clear hf C8
        go_wp2
        go_ret
        exact ⟨rfl, hbf.out⟩


theorem full_empty (A : Option Addr) (cap : Nat) (w : World) :
    Calls Try.prog 3 #[.slice A 0 cap] w fun e w' => e = .returned (.bool true) ∧ Below w.heap.size w w' := by
  have C0 := Lib.hid (awake_any w)
  go_enter Try.func3, Try.ntmps3
  go_wp2_with fail
  refine (C0.out).mono ?_
  rintro e w1 ⟨rfl, hb1⟩
  go_wp2
  go_ret
  exact ⟨rfl, hb1⟩

theorem full_any {H : Type} {enc : TypeId × Value → H} (v : Value) {d : DataW H} {ps : List MemPlace} (w : World) {base : Nat}
    (hv : Value.okWide Try.prog w .any base 22 v) (h : DataW.Trod enc Try.prog w 0 (fun _ => true) true 22 v d ps) :
    Calls Try.prog 3 #[v] w fun e w' => e = .returned (.bool true) ∧ Below w.heap.size w w' := by
  obtain ⟨A, len, cap, ss, rfl, hr⟩ := Args.strs_open Try.underlying22 Try.underlying9 (by kernel_rfl) hv h
  by_cases h0 : len = 0
  · subst h0; exact full_empty A cap w
  · obtain ⟨b, off, rfl, hc⟩ := hr.cells (by omega)
    exact full_walk b off len cap ss w (by omega) hr.lc hr.cm hc

end Go.Proofs.Ytpecclcihefbaaa.NetA
