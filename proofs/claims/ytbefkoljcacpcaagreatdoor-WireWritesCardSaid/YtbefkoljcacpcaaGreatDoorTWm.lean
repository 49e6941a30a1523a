/- What LawWireReads, LawWireWrites, LawWireSpoilt lean on, part m of 15: the texts RefA, RefB, RefC, RefD, RefE, RefF, RefG, RefH, RefR. -/
import Derived.Test.YtbefkoljcacpcaaGreatDoorTWa
import Derived.Test.YtbefkoljcacpcaaGreatDoorTWd
import Derived.Test.YtbefkoljcacpcaaGreatDoorTWe
import Derived.Deep.LoopGhost
import Derived.Deep.RegionLaw
import Derived.OwnWalk
import Derived.Deep.OwnRows
import Derived.Lib.Hide
import Derived.Deep.AppendLies
import Derived.Deep.Onto
import Derived.ArgAppend
import Derived.Deep.DeepFit
import Derived.Deep.RegionHeld3
import Derived.Deep.QuietTactic
import Derived.BigQuiet
set_option linter.unusedVariables false
namespace Go.Proofs.YtbefkoljcacpcaaGreatDoor.Ref
def val : List Nat → Nat
  | [] => 0
  | x :: l => x + 65536 * val l
theorem val_append : ∀ a b : List Nat, val (a ++ b) = val a + 65536 ^ a.length * val b
  | [], b => by simp [val]
  | x :: a, b => by
    rw [List.cons_append, val, val, val_append a b, List.length_cons, Nat.pow_succ, Nat.mul_add, Nat.add_assoc]
    congr 2
    rw [← Nat.mul_assoc, Nat.mul_comm 65536]
theorem val_set : ∀ (l : List Nat) (k y : Nat), k < l.length → val (l.set k y) + l.getD k 0 * 65536 ^ k = val l + y * 65536 ^ k
  | [], k, y, h => absurd h (by simp)
  | x :: l, 0, y, _ => by simp [val]; omega
  | x :: l, k + 1, y, h => by
    have ih := val_set l k y (by simpa using h)
    simp only [List.set_cons_succ, val, List.getD_cons_succ, Nat.pow_succ]
    have e1 : l.getD k 0 * (65536 ^ k * 65536) = 65536 * (l.getD k 0 * 65536 ^ k) := by rw [← Nat.mul_assoc, Nat.mul_comm]
    have e2 : y * (65536 ^ k * 65536) = 65536 * (y * 65536 ^ k) := by rw [← Nat.mul_assoc, Nat.mul_comm]
    rw [e1, e2]
    omega
theorem val_zeros : ∀ n, val (List.replicate n 0) = 0
  | 0 => rfl
  | n + 1 => by rw [List.replicate_succ, val, val_zeros n]
theorem val_take_succ (l : List Nat) (k : Nat) (h : k < l.length) : val (l.take (k + 1)) = val (l.take k) + l.getD k 0 * 65536 ^ k := by
  rw [List.take_add_one, val_append, List.getD_eq_getElem?_getD, List.getElem?_eq_getElem h, List.length_take, Nat.min_eq_left (by omega)]
  simp [val, Nat.mul_comm]
theorem val_lt : ∀ l : List Nat, (∀ x ∈ l, x < 65536) → val l < 65536 ^ l.length
  | [], _ => by simp [val]
  | x :: l, h => by
    have := val_lt l (fun y hy => h y (List.mem_cons_of_mem _ hy))
    have hx := h x (List.mem_cons_self)
    rw [val, List.length_cons, Nat.pow_succ]
    omega
theorem val_split (l : List Nat) (k : Nat) (h : k ≤ l.length) : val l = val (l.take k) + 65536 ^ k * val (l.drop k) := by
  have := val_append (l.take k) (l.drop k)
  rwa [List.take_append_drop, List.length_take, Nat.min_eq_left h] at this
theorem getD_set (l : List Nat) (i j y : Nat) (h : i < l.length) : (l.set i y).getD j 0 = if i = j then y else l.getD j 0 := by
  simp only [List.getD_eq_getElem?_getD, List.getElem?_set]
  by_cases e : i = j
  · subst e; simp [h]
  · simp [e]
structure Tim (a b : List Nat) (i j c : Nat) (o : List Nat) : Prop where
  len : o.length = a.length + b.length
  small : ∀ k, o.getD k 0 < 65536
  zero : ∀ k, i + b.length ≤ k → o.getD k 0 = 0
  carry : c < 65536
  eq : val o + c * 65536 ^ (i + j) = val (a.take i) * val b + a.getD i 0 * 65536 ^ i * val (b.take j)
variable {a b : List Nat} {i j c : Nat} {o : List Nat}
theorem Tim.start (a b : List Nat) : Tim a b 0 0 0 (List.replicate (a.length + b.length) 0) := by
  have hz : ∀ k, (List.replicate (a.length + b.length) 0).getD k 0 = 0 := fun k => by
    rw [List.getD_eq_getElem?_getD, List.getElem?_replicate]; split <;> rfl
  exact ⟨by simp, fun k => by rw [hz]; omega, fun k _ => hz k, by omega, by simp [val_zeros, val]⟩
theorem Tim.step (h : Tim a b i j c o) (hi : i < a.length) (hj : j < b.length) (ha : a.getD i 0 < 65536) (hb : b.getD j 0 < 65536) :
    Tim a b i (j + 1) ((o.getD (i + j) 0 + a.getD i 0 * b.getD j 0 + c) / 65536) (o.set (i + j) ((o.getD (i + j) 0 + a.getD i 0 * b.getD j 0 + c) % 65536)) := by
  have hl := h.len
  have hx := h.small (i + j)
  have hc := h.carry
  have hm : a.getD i 0 * b.getD j 0 ≤ 65535 * 65535 := Nat.mul_le_mul (by omega) (by omega)
  have hs := val_set o (i + j) ((o.getD (i + j) 0 + a.getD i 0 * b.getD j 0 + c) % 65536) (by omega)
  have he := h.eq
  refine ⟨by simp [hl], fun k => ?_, fun k hk => ?_, ?_, ?_⟩
  · rw [getD_set _ _ _ _ (by omega)]; split
    · omega
    · exact h.small k
  · rw [getD_set _ _ _ _ (by omega), if_neg (by omega)]; exact h.zero k hk
  · omega
  · rw [val_take_succ b j hj, Nat.mul_add]
    have e3 : a.getD i 0 * 65536 ^ i * (b.getD j 0 * 65536 ^ j) = a.getD i 0 * b.getD j 0 * 65536 ^ (i + j) := by
      rw [Nat.pow_add, Nat.mul_mul_mul_comm]
    have e4 : ((o.getD (i + j) 0 + a.getD i 0 * b.getD j 0 + c) / 65536) * 65536 ^ (i + (j + 1)) = (o.getD (i + j) 0 + a.getD i 0 * b.getD j 0 + c) / 65536 * 65536 * 65536 ^ (i + j) := by
      rw [show i + (j + 1) = (i + j) + 1 from by omega, Nat.pow_succ, Nat.mul_assoc, Nat.mul_comm (65536 ^ (i + j))]
    rw [e3, e4]
    have e5 : (o.getD (i + j) 0 + a.getD i 0 * b.getD j 0 + c) / 65536 * 65536 * 65536 ^ (i + j) + (o.getD (i + j) 0 + a.getD i 0 * b.getD j 0 + c) % 65536 * 65536 ^ (i + j) = o.getD (i + j) 0 * 65536 ^ (i + j) + a.getD i 0 * b.getD j 0 * 65536 ^ (i + j) + c * 65536 ^ (i + j) := by
      rw [← Nat.add_mul, ← Nat.add_mul, ← Nat.add_mul]; congr 1; omega
    omega
theorem Tim.row (h : Tim a b i b.length c o) (hi : i < a.length) : Tim a b (i + 1) 0 0 (o.set (i + b.length) (o.getD (i + b.length) 0 + c)) := by
  have hl := h.len
  have hz := h.zero (i + b.length) (Nat.le_refl _)
  have hs := val_set o (i + b.length) (o.getD (i + b.length) 0 + c) (by omega)
  have hc := h.carry
  have he := h.eq
  rw [hz] at hs ⊢
  refine ⟨by simp [hl], fun k => ?_, fun k hk => ?_, by omega, ?_⟩
  · rw [getD_set _ _ _ _ (by omega)]; split
    · omega
    · exact h.small k
  · rw [getD_set _ _ _ _ (by omega), if_neg (by omega)]; exact h.zero k (by omega)
  · rw [List.take_of_length_le (Nat.le_refl _)] at he
    rw [val_take_succ a i hi, Nat.add_mul]
    simp only [List.take_zero, val, Nat.mul_zero, Nat.add_zero, Nat.zero_mul] at hs ⊢
    simp only [Nat.zero_add] at hs ⊢
    omega
theorem Tim.done (h : Tim a b a.length 0 c o) (hc : c = 0) : val o = val a * val b := by
  have he := h.eq
  subst hc
  simpa [val] using he
end Go.Proofs.YtbefkoljcacpcaaGreatDoor.Ref
set_option linter.unusedVariables false
set_option linter.unusedSimpArgs false
namespace Go.Proofs.YtbefkoljcacpcaaGreatDoor.Ref
open Go.RowKit Go.Proofs.YtbefkoljcacpcaaGreatDoor.B
def nc (l : List Nat) : Array Value := (l.map fun x => Value.int .u64 ((x : Nat) : Int)).toArray
theorem nc_get (l : List Nat) (i : Nat) (h : i < l.length) : (nc l)[i]? = some (.int .u64 ((l.getD i 0 : Nat) : Int)) := by
  simp [nc, List.getD_eq_getElem?_getD, List.getElem?_eq_getElem h]
theorem nc_set (l : List Nat) (i : Nat) (x : Nat) : (nc l).setIfInBounds i (.int .u64 ((x : Nat) : Int)) = nc (l.set i x) := by
  simp only [nc, List.setIfInBounds_toArray, List.map_set]
def RowU (w : World) (v : Value) (l : List Nat) : Prop := ∃ g cap, v = .slice (some ⟨g, 0, none⟩) l.length cap ∧ ∀ k, k < l.length → w.cell? ⟨g, k, none⟩ = some (.int .u64 ((l.getD k 0 : Nat) : Int))
theorem RowU.tch {w w' : World} {v : Value} {l : List Nat} (h : RowU w v l) (ht : Tch (fun _ => False) w w') : RowU w' v l := by
  obtain ⟨g, cap, hv, hc⟩ := h
  exact ⟨g, cap, hv, fun k hk => ht.cell (hc k hk) (fun e => e)⟩
theorem RowU.of {w : World} {g cap : Nat} {l : List Nat} {t : TypeId} {fz : Nat × Nat} (h : w.heap[g]? = some (.cells (nc l) t fz)) : RowU w (.slice (some ⟨g, 0, none⟩) l.length cap) l :=
  ⟨g, cap, rfl, fun k hk => by rw [cell_of h, nc_get l k hk]⟩
set_option maxRecDepth 100000 in
theorem limbs_any (x : Nat) (hx : x < 18446744073709551616) (w : World) :
    Calls Tryz.prog 101 #[.int .u64 (x : Int)] w fun e w' => e = .returned (.slice (some ⟨w.heap.size, 0, none⟩) 3 3) ∧ w' = w.alloc (.cells (nc [x % 65536, x / 65536 % 65536, x / 4294967296]) 102) := by
  go_enter Tryz.func101, Tryz.ntmps101
  go_wp2_with fail
  go_ret
  have e : nc [x % 65536, x / 65536 % 65536, x / 4294967296] = #[.int .u64 ((x : Int) % 65536), .int .u64 ((x : Int) / 65536 % 65536), .int .u64 ((x : Int) / 4294967296)] := by simp [nc]
  rw [e]
  exact ⟨rfl, rfl⟩
def TimR (w0 w : World) (a b : List Nat) (i j c : Nat) : Prop := ∃ o, w.heap[w0.heap.size]? = some (.cells (nc o) 102 (0, 0)) ∧ Tch (fun _ => False) w0 w ∧ Tim a b i j c o
def TimesPost (w : World) (a b : List Nat) (e : Ending) (w' : World) : Prop := ∃ v l, e = .returned v ∧ RowU w' v l ∧ l.length = a.length + b.length ∧ (∀ k, l.getD k 0 < 65536) ∧ val l = val a * val b ∧ Tch (fun _ => False) w w'
theorem made_nc (n : Nat) : madeCells #[.int .u64 0] n = nc (List.replicate n 0) := by
  unfold nc
  rw [List.map_replicate]
  apply Array.ext
  · simp [madeCells]
  · intro k h1 h2
    simp [madeCells, Nat.mod_one]
theorem timR_step {w0 w : World} {a b o : List Nat} {i j c : Nat} {v q : Int} (ho : w.heap[w0.heap.size]? = some (.cells (nc o) 102 (0, 0))) (ht : Tch (fun _ => False) w0 w) (h : Tim a b i j c o)
    (hi : i < a.length) (hj : j < b.length) (ha : a.getD i 0 < 65536) (hb : b.getD j 0 < 65536)
    (hv : v = (((o.getD (i + j) 0 + a.getD i 0 * b.getD j 0 + c) % 65536 : Nat) : Int)) (hq : q = (((o.getD (i + j) 0 + a.getD i 0 * b.getD j 0 + c) / 65536 : Nat) : Int)) :
    ∃ c' : Nat, q = (c' : Int) ∧ TimR w0 (w.setCell ⟨w0.heap.size, i + j, none⟩ (.int .u64 v)).drew a b i (j + 1) c' := by
  subst hv
  exact ⟨_, hq, _, by show (w.setCell _ _).heap[_]? = _; rw [heap_set_some ho, nc_set], (ht.setNew ⟨w0.heap.size, i + j, none⟩ (Nat.le_refl _) _).drew, h.step hi hj ha hb⟩
theorem timR_row {w0 w : World} {a b o : List Nat} {i c : Nat} {v : Int} (ho : w.heap[w0.heap.size]? = some (.cells (nc o) 102 (0, 0))) (ht : Tch (fun _ => False) w0 w) (h : Tim a b i b.length c o)
    (hi : i < a.length) (hv : v = ((o.getD (i + b.length) 0 + c : Nat) : Int)) :
    TimR w0 (w.setCell ⟨w0.heap.size, i + b.length, none⟩ (.int .u64 v)) a b (i + 1) 0 0 := by
  subst hv
  exact ⟨_, by rw [heap_set_some ho, nc_set], ht.setNew ⟨w0.heap.size, i + b.length, none⟩ (Nat.le_refl _) _, h.row hi⟩
theorem timR_done {w0 w : World} {a b : List Nat} (h : TimR w0 w a b a.length 0 0) : TimesPost w0 a b (.returned (.slice (some ⟨w0.heap.size, 0, none⟩) (a.length + b.length) (a.length + b.length))) w := by
  obtain ⟨o, ho, ht, hT⟩ := h
  refine ⟨_, o, rfl, ?_, hT.len, hT.small, hT.done rfl, ht⟩
  rw [← hT.len]; exact RowU.of ho
theorem info64 : (Tryz.prog.info? 102).map (fun i => (i.zero, i.size, i.bytes)) = some (some (.int .u64 0), 1, 8) := by kernel_rfl
set_option maxRecDepth 100000 in
set_option maxHeartbeats 4000000 in
theorem times_any (a b : List Nat) (hla : a.length ≤ 100) (hlb : b.length ≤ 100) (ha : ∀ k, a.getD k 0 < 65536) (hb : ∀ k, b.getD k 0 < 65536) (va vb : Value) (w : World) (hva : RowU w va a) (hvb : RowU w vb b) :
    Calls Tryz.prog 102 #[va, vb] w fun e w' => TimesPost w a b e w' := by
  have hmk : ∀ W : World, (Instr.makeSlice 177 (.int .i64 ((a.length : Int) + (b.length : Int))) (.int .i64 ((a.length : Int) + (b.length : Int)))).run Tryz.prog W = .ok (.slice (some ⟨W.heap.size, 0, none⟩) (a.length + b.length) (a.length + b.length)) (W.alloc (.cells (madeCells #[.int .u64 0] (a.length + b.length)) 102)) := by
    intro W
    exact Go.run_make_row' (P := Tryz.prog) 177 102 (.int .u64 0) 8 Tryz.underlying177 info64 rfl .i64 .i64 (a.length + b.length) (by omega) (by omega) W
  obtain ⟨ga, ca, rfl, hca⟩ := hva
  obtain ⟨gb, cb, rfl, hcb⟩ := hvb
  have hcaH := Lib.hid hca
  have hcbH := Lib.hid hcb
  have haH := Lib.hid ha
  have hbH := Lib.hid hb
  clear ha hb hca hcb
  go_enter Tryz.func102, Tryz.ntmps102
  go_wp2_with fail
  have hst : TimR w (w.alloc (.cells (madeCells #[.int .u64 0] (a.length + b.length)) 102)) a b 0 0 0 := ⟨_, by rw [heap_alloc_at, made_nc], (Tch.refl _ _).alloc _, Tim.start a b⟩
  replace hst := Lib.hid hst
  clear hmk
  go_loopg [6] a.length (fun g i W => ∃ n : Nat, g = a.length - n ∧ n ≤ a.length ∧ i = .int .i64 n ∧ TimR w W a b n 0 0)
  case atStart => exact ⟨0, rfl, by omega, rfl, hst.out⟩
  case round =>
    clear hst
    obtain ⟨n, hg, hn, rfl, hR⟩ := hrel
    subst hg
    by_cases hnl : n < a.length
    · have hni : (n : Int) < (a.length : Int) := by omega
      replace hR := Lib.hid hR
      go_wp2_with fail
      go_loopg [7, 8] b.length (fun g cc jj W => ∃ m c : Nat, g = b.length - m ∧ m ≤ b.length ∧ cc = .int .u64 c ∧ jj = .int .i64 m ∧ TimR w W a b n m c)
      case atStart => exact ⟨0, 0, rfl, by omega, rfl, rfl, hR.out⟩
      case round =>
        clear hR
        obtain ⟨m, c, hg, hm, rfl, rfl, o, ho, ht, hT⟩ := hrel
        subst hg
        have hlo := hT.len
        by_cases hml : m < b.length
        · have hmi : (m : Int) < (b.length : Int) := by omega
          have hc1 : wr.cell? ⟨w.heap.size, n + m, none⟩ = some (.int .u64 ((o.getD (n + m) 0 : Nat) : Int)) := by rw [cell_of ho, nc_get _ _ (by omega)]
          have hc2 := ht.cell (hcaH.out n hnl) (fun e => e)
          have hc3 := ht.cell (hcbH.out m hml) (fun e => e)
          have hfr := fr_of ho
          have hs1 := hT.small (n + m)
          have hs2 := haH.out n
          have hs3 := hbH.out m
          have hs4 := hT.carry
          have hnx := fun v q hv hq => timR_step (v := v) (q := q) ho ht hT hnl hml hs2 hs3 hv hq
          replace hnx := Lib.hid hnx
          replace ho := Lib.hid ho
          replace ht := Lib.hid ht
          clear hT
          generalize o.getD (n + m) 0 = oo at *
          generalize a.getD n 0 = aa at *
          generalize b.getD m 0 = bb at *
          have hp : aa * bb ≤ 65535 * 65535 := Nat.mul_le_mul (by omega) (by omega)
          have hpi : (aa : Int) * (bb : Int) = ((aa * bb : Nat) : Int) := (Int.natCast_mul aa bb).symm
          generalize aa * bb = pp at *
          have hpp : (pp : Int) ≤ 4294836225 := by omega
          have ho1 : (oo : Int) < 65536 := by omega
          have ho4 : (c : Int) < 65536 := by omega
          go_wp2_with fail
          go_region
          go_wp2_with fail
          obtain ⟨c', hc', hR'⟩ := hnx.out (((oo : Int) + pp + c) % 65536) (((oo : Int) + pp + c) / 65536) (by omega) (by omega)
          rw [hc']
          go_roundg (b.length - (m + 1))
          case measure => omega
          case rel => exact ⟨m + 1, c', rfl, by omega, rfl, by go_num, hR'⟩
        · have hme : m = b.length := by omega
          subst hme
          have hmi : ¬ (b.length : Int) < (b.length : Int) := by omega
          have hc1 : wr.cell? ⟨w.heap.size, n + b.length, none⟩ = some (.int .u64 ((o.getD (n + b.length) 0 : Nat) : Int)) := by rw [cell_of ho, nc_get _ _ (by omega)]
          have hfr := fr_of ho
          have hs1 := hT.small (n + b.length)
          have hs4 := hT.carry
          have hnx := fun v hv => timR_row (v := v) ho ht hT hnl hv
          replace hnx := Lib.hid hnx
          clear ho ht hT
          generalize o.getD (n + b.length) 0 = oo at *
          have ho1 : (oo : Int) < 65536 := by omega
          have ho4 : (c : Int) < 65536 := by omega
          go_wp2_with fail
          go_roundg (a.length - (n + 1))
          case measure => omega
          case rel => exact ⟨n + 1, rfl, by omega, by go_num, hnx.out _ (by omega)⟩
    · have hne : n = a.length := by omega
      subst hne
      have hfin := Lib.hid (timR_done hR)
      clear hR
      go_wp2_with fail
      go_ret
      exact hfin.out
end Go.Proofs.YtbefkoljcacpcaaGreatDoor.Ref
set_option linter.unusedVariables false
set_option linter.unusedSimpArgs false
namespace Go.Proofs.YtbefkoljcacpcaaGreatDoor.Ref
open Go.RowKit Go.Proofs.YtbefkoljcacpcaaGreatDoor.B
def ab (x q p : Nat) : Bool := decide (p * 65536 ^ (2 * q) < x ^ q)
structure Abv (ml : List Nat) (q r top : Nat) (rest : Bool) : Prop where
  top : top = val (ml.drop (max r (2 * q)))
  rest : rest = decide (0 < val ((ml.take (2 * q)).drop r))
theorem drop_cons (l : List Nat) (r : Nat) (h : r < l.length) : l.drop r = l.getD r 0 :: l.drop (r + 1) := by
  rw [List.drop_eq_getElem_cons h, List.getD_eq_getElem?_getD, List.getElem?_eq_getElem h]; rfl
variable {ml : List Nat} {q r top : Nat} {rest : Bool}
theorem Abv.start (ml : List Nat) (q : Nat) (h : ml.length = 3 * q) : Abv ml q (3 * q) 0 false := by
  constructor
  · rw [List.drop_of_length_le (by omega)]; rfl
  · rw [List.drop_of_length_le (by rw [List.length_take]; omega)]; rfl
theorem Abv.high (h : Abv ml q (r + 1) top rest) (hl : ml.length = 3 * q) (hr : r < 3 * q) (hq : 2 * q ≤ r) : Abv ml q r (top * 65536 + ml.getD r 0) rest := by
  constructor
  · rw [h.top, Nat.max_eq_left (by omega), Nat.max_eq_left (by omega), drop_cons ml r (by omega), val]; omega
  · rw [h.rest, List.drop_of_length_le (by rw [List.length_take]; omega), List.drop_of_length_le (by rw [List.length_take]; omega)]
theorem Abv.low (h : Abv ml q (r + 1) top rest) (hl : ml.length = 3 * q) (hq : r < 2 * q) : Abv ml q r top (rest || decide (0 < ml.getD r 0)) := by
  constructor
  · rw [h.top, Nat.max_eq_right (by omega), Nat.max_eq_right (by omega)]
  · have e : (ml.take (2 * q)).getD r 0 = ml.getD r 0 := by
      simp only [List.getD_eq_getElem?_getD]
      rw [List.getElem?_take, if_pos hq]
    rw [drop_cons (ml.take (2 * q)) r (by rw [List.length_take]; omega), val, e, h.rest, ← Bool.decide_or]
    congr 1
    apply propext
    omega
theorem small_mem {l : List Nat} (h : ∀ k, l.getD k 0 < 65536) : ∀ x ∈ l, x < 65536 := by
  intro x hx
  obtain ⟨i, hi, rfl⟩ := List.getElem_of_mem hx
  have := h i
  rwa [List.getD_eq_getElem?_getD, List.getElem?_eq_getElem hi] at this
theorem Abv.bound (h : Abv ml q r top rest) (hl : ml.length = 3 * q) (hq : q ≤ 3) (hs : ∀ k, ml.getD k 0 < 65536) : top < 281474976710656 := by
  rw [h.top]
  have h1 := val_lt (ml.drop (max r (2 * q))) (fun x hx => small_mem hs x (List.mem_of_mem_drop hx))
  have h2 : 65536 ^ (ml.drop (max r (2 * q))).length ≤ 65536 ^ 3 := Nat.pow_le_pow_right (by omega) (by rw [List.length_drop]; omega)
  omega
theorem Abv.done (h : Abv ml q 0 top rest) (hl : ml.length = 3 * q) (hs : ∀ k, ml.getD k 0 < 65536) {x : Nat} (hv : val ml = x ^ q) (p : Nat) :
    (decide (p < top) || (decide (top = p) && rest)) = ab x q p := by
  have h1 := val_split ml (2 * q) (by omega)
  have h2 := val_lt (ml.take (2 * q)) (fun x hx => small_mem hs x (List.mem_of_mem_take hx))
  rw [List.length_take, Nat.min_eq_left (by omega)] at h2
  have ht := h.top
  have hr := h.rest
  rw [Nat.max_eq_right (by omega)] at ht
  rw [List.drop_zero] at hr
  rw [hv, ← ht] at h1
  rw [hr]
  unfold ab
  rw [h1, ← Bool.decide_and, ← Bool.decide_or]
  congr 1
  apply propext
  generalize val (ml.take (2 * q)) = lo at *
  generalize 65536 ^ (2 * q) = P at *
  constructor
  · rintro (h | ⟨h, h'⟩)
    · have : P * (p + 1) ≤ P * top := Nat.mul_le_mul_left _ (by omega)
      rw [Nat.mul_comm p P]
      rw [Nat.mul_add] at this
      omega
    · subst h; rw [Nat.mul_comm]; omega
  · intro h
    by_cases e : p < top
    · exact .inl e
    · refine .inr ?_
      by_cases e2 : top = p
      · subst e2; rw [Nat.mul_comm] at h; exact ⟨rfl, by omega⟩
      · exfalso
        have : P * (top + 1) ≤ P * p := Nat.mul_le_mul_left _ (by omega)
        rw [Nat.mul_comm p P] at h
        rw [Nat.mul_add] at this
        omega
def Mul (w0 w : World) (x : Nat) (v : Value) (n : Nat) : Prop := ∃ ml, RowU w v ml ∧ ml.length = 3 * n ∧ (∀ k, ml.getD k 0 < 65536) ∧ val ml = x ^ n ∧ Tch (fun _ => False) w0 w
theorem limbs_val (x : Nat) : val [x % 65536, x / 65536 % 65536, x / 4294967296] = x := by simp only [val]; omega
theorem limbs_small (x : Nat) (hx : x < 281474976710656) : ∀ k, ([x % 65536, x / 65536 % 65536, x / 4294967296] : List Nat).getD k 0 < 65536
  | 0 => by simp; omega
  | 1 => by simp; omega
  | 2 => by simp; omega
  | k + 3 => by simp
theorem mul_next {w0 w w' : World} {x n : Nat} {ml : List Nat} {e : Ending} (hx : x < 281474976710656) (hl : ml.length = 3 * n) (hv : val ml = x ^ n) (ht : Tch (fun _ => False) w0 w)
    (h : TimesPost w ml [x % 65536, x / 65536 % 65536, x / 4294967296] e w') : ∃ v, e = .returned v ∧ Mul w0 w' x v (n + 1) := by
  obtain ⟨v, l, he, hr, hll, hs, hvl, ht'⟩ := h
  exact ⟨v, he, l, hr, by rw [hll, hl]; simp; omega, hs, by rw [hvl, hv, limbs_val, Nat.pow_succ], ht.trans ht'⟩
set_option maxRecDepth 100000 in
set_option maxHeartbeats 4000000 in
theorem above_any (x q p : Nat) (hx : x < 281474976710656) (hq1 : 1 ≤ q) (hq : q ≤ 3) (hp : p < 1000) (w : World) :
    Calls Tryz.prog 86 #[.int .u64 (x : Int), .int .i64 (q : Int), .int .i64 (p : Int)] w fun e w' => e = .returned (.bool (ab x q p)) ∧ Tch (fun _ => False) w w' := by
  have hC := Lib.hid (limbs_any x (by omega) w)
  obtain ⟨L, hL⟩ : ∃ L, L = [x % 65536, x / 65536 % 65536, x / 4294967296] := ⟨_, rfl⟩
  rw [← hL] at hC
  have hw1 : (w.alloc (.cells (nc L) 102)).heap[w.heap.size]? = some (.cells (nc L) 102 (0, 0)) := heap_alloc_at _ _
  have hLl : L.length = 3 := by rw [hL]; rfl
  have hM1 : Mul w (w.alloc (.cells (nc L) 102)) x (.slice (some ⟨w.heap.size, 0, none⟩) 3 3) 1 :=
    ⟨L, by have := RowU.of (cap := 3) hw1; rwa [hLl] at this, by omega, by rw [hL]; exact limbs_small x hx, by rw [hL, limbs_val, Nat.pow_one], (Tch.refl _ _).alloc _⟩
  have hRL : RowU (w.alloc (.cells (nc L) 102)) (.slice (some ⟨w.heap.size, 0, none⟩) 3 3) L := by have := RowU.of (cap := 3) hw1; rwa [hLl] at this
  have hq1i : (1 : Int) ≤ (q : Int) := by omega
  have hqi : (q : Int) ≤ 3 := by omega
  have hpi : (p : Int) < 1000 := by omega
  replace hM1 := Lib.hid hM1
  replace hRL := Lib.hid hRL
  replace hL := Lib.hid hL
  clear hw1
  go_enter Tryz.func86, Tryz.ntmps86
  go_wp2_with (go_at_call 101; refine (hC.out).mono ?_; rintro e w1 ⟨rfl, rfl⟩)
  clear hC
  generalize hW : w.alloc (.cells (nc L) 102) = W1 at *
  replace hW := Lib.hid hW
  go_loopg [8, 9] (q - 1) (fun g mv i W => ∃ n : Nat, g = q - n ∧ 1 ≤ n ∧ n ≤ q ∧ i = .int .i64 n ∧ Mul w W x mv n ∧ Tch (fun _ => False) W1 W)
  case atStart => exact ⟨1, rfl, by omega, by omega, rfl, hM1.out, Tch.refl _ _⟩
  case round =>
    clear hM1
    obtain ⟨n, hg, hn1, hn, rfl, hM, hT1⟩ := hrel
    subst hg
    by_cases hnl : n < q
    · have hni : (n : Int) < (q : Int) := by omega
      obtain ⟨ml, hr, hl, hs, hv, ht⟩ := hM
      have hC := Lib.hid (times_any ml L (by omega) (by omega) hs (by rw [hL.out]; exact limbs_small x hx) _ _ wr hr (hRL.out.tch hT1))
      have hN := Lib.hid (fun e w' h => mul_next (w' := w') (e := e) hx hl hv ht (by rw [← hL.out]; exact h))
      replace hT1 := Lib.hid hT1
      clear hr hl hs hv ht
      go_wp2_with (go_at_call 102; refine (hC.out).mono ?_; intro e w1 hpost; have htt := hpost; obtain ⟨v, rfl, hM⟩ := hN.out _ _ hpost; obtain ⟨_, _, _, _, _, _, _, ht9⟩ := htt; replace ht9 := Lib.hid ht9; replace hM := Lib.hid hM; clear hpost)
      go_roundg (q - (n + 1))
      case measure => omega
      case rel => exact ⟨n + 1, rfl, by omega, by omega, by go_num, hM.out, hT1.out.trans ht9.out⟩
    · have hne : n = q := by omega
      subst hne
      clear hRL hT1
      obtain ⟨ml, ⟨gm, cm, rfl, hcs⟩, hl, hs, hv, ht⟩ := hM
      have hst := Lib.hid (show Abv ml n ml.length 0 false from by have := Abv.start ml n hl; rwa [← hl] at this)
      have hbd := Lib.hid (fun (r top : Nat) (rest : Bool) (h : Abv ml n r top rest) => h.bound hl hq hs)
      have hhi := Lib.hid (fun (r top : Nat) (rest : Bool) (h : Abv ml n (r + 1) top rest) => Abv.high h hl)
      have hlo := Lib.hid (fun (r top : Nat) (rest : Bool) (h : Abv ml n (r + 1) top rest) => Abv.low h hl)
      have hdn := Lib.hid (fun (top : Nat) (rest : Bool) (h : Abv ml n 0 top rest) => h.done hl hs hv p)
      have hli : (ml.length : Int) ≤ 9 := by omega
      have hli3 : (3 : Int) ≤ (ml.length : Int) := by omega
      have hlH := Lib.hid hl
      have hcsH := Lib.hid hcs
      have hsH := Lib.hid hs
      clear hcs hs hv hl
      replace ht := Lib.hid ht
      go_wp2_with fail
      go_loopg [10, 11, 12] ml.length (fun g tv rv i W => ∃ (r top : Nat) (rest : Bool), g = r ∧ r ≤ ml.length ∧ tv = .int .u64 top ∧ rv = .bool rest ∧ i = .int .i64 ((r : Int) - 1) ∧ Abv ml n r top rest ∧ W = wr)
      case atStart => exact ⟨ml.length, 0, false, rfl, Nat.le_refl _, rfl, rfl, by go_num, hst.out, rfl⟩
      case round =>
        obtain ⟨r', top, rest, hgk, hr, rfl, rfl, rfl, hA, rfl⟩ := hrel
        by_cases hr0 : r' = 0
        · subst hr0
          subst hgk
          have hd := Lib.hid (hdn.out top rest hA)
          have hb := hbd.out _ _ _ hA
          clear hA hst
          rw [show ((0 : Nat) : Int) - 1 = -1 from rfl]
          by_cases h1 : p < top
          · have h1i : (p : Int) < (top : Int) := by omega
            have hres := Lib.hid (show ab x n p = true from by rw [← hd.out]; simp [h1])
            go_wp2_with fail
            go_ret
            exact ⟨by rw [hres.out]; rfl, ht.out⟩
          · have h1i : ¬ (p : Int) < (top : Int) := by omega
            by_cases h2 : top = p
            · subst h2
              have hres := Lib.hid (show ab x n top = rest from by rw [← hd.out]; simp)
              cases rest
              · go_wp2_with fail
                go_ret
                exact ⟨by rw [hres.out]; rfl, ht.out⟩
              · go_wp2_with fail
                go_ret
                exact ⟨by rw [hres.out]; rfl, ht.out⟩
            · have h2i : ¬ (top : Int) = (p : Int) := by omega
              have hres := Lib.hid (show ab x n p = false from by rw [← hd.out]; simp [h1, h2])
              go_wp2_with fail
              go_ret
              exact ⟨by rw [hres.out]; rfl, ht.out⟩
        · obtain ⟨r, rfl⟩ : ∃ r, r' = r + 1 := ⟨r' - 1, by omega⟩
          subst hgk
          rw [show (((r + 1 : Nat) : Int) - 1) = (r : Int) from by omega]
          have hcell := hcsH.out r (by omega)
          have hsm := hsH.out r
          have hb := hbd.out _ _ _ hA
          have hbi : (top : Int) < 281474976710656 := by omega
          have hrl : (r : Int) < (ml.length : Int) := by omega
          by_cases h2 : 2 * n ≤ r
          · have h2i : 2 * (n : Int) ≤ (r : Int) := by omega
            have hnx := Lib.hid (hhi.out _ _ _ hA (by have := hlH.out; omega) h2)
            clear hA
            generalize ml.getD r 0 = mm at *
            have hmi : (mm : Int) < 65536 := by omega
            go_wp2_with fail
            go_roundg r
            case measure => omega
            case rel => exact ⟨r, _, rest, rfl, by omega, by go_num, rfl, by go_num, hnx.out, rfl⟩
          · have h2i : ¬ 2 * (n : Int) ≤ (r : Int) := by omega
            have hnx := Lib.hid (hlo.out _ _ _ hA (by omega))
            clear hA
            generalize ml.getD r 0 = mm at *
            by_cases h3 : 0 < mm
            · have h3i : (0 : Int) < (mm : Int) := by omega
              go_wp2_with fail
              go_roundg r
              case measure => omega
              case rel => exact ⟨r, top, true, rfl, by omega, rfl, rfl, by go_num, by have := hnx.out; rwa [decide_eq_true h3, Bool.or_true] at this, rfl⟩
            · have h3i : ¬ (0 : Int) < (mm : Int) := by omega
              go_wp2_with fail
              go_roundg r
              case measure => omega
              case rel => exact ⟨r, top, rest, rfl, by omega, rfl, rfl, by go_num, by have := hnx.out; rwa [decide_eq_false h3, Bool.or_false] at this, rfl⟩
end Go.Proofs.YtbefkoljcacpcaaGreatDoor.Ref
set_option linter.unusedVariables false
set_option linter.unusedSimpArgs false
namespace Go.Proofs.YtbefkoljcacpcaaGreatDoor.Ref
open Go.RowKit Go.Proofs.YtbefkoljcacpcaaGreatDoor.B
def bis (p q : Nat) : Nat → Nat
  | 0 => 0
  | t + 1 => if ab (bis p q t + 2 ^ (39 - t)) q p then bis p q t else bis p q t + 2 ^ (39 - t)
def rootN (p q : Nat) : Nat := bis p q 40 % 4294967296
theorem pow_half (t : Nat) (h : t < 40) : 2 ^ (40 - t) = 2 * 2 ^ (39 - t) := by
  rw [show 40 - t = (39 - t) + 1 from by omega, Nat.pow_succ, Nat.mul_comm]
theorem bis_le (p q : Nat) : ∀ t, t ≤ 40 → bis p q t + 2 ^ (40 - t) ≤ 1099511627776
  | 0, _ => by simp [bis]
  | t + 1, h => by
    have ih := bis_le p q t (by omega)
    rw [pow_half t (by omega)] at ih
    rw [bis, show 40 - (t + 1) = 39 - t from by omega]
    split <;> omega
set_option maxRecDepth 100000 in
set_option maxHeartbeats 4000000 in
theorem root_any (p q : Nat) (hq1 : 1 ≤ q) (hq : q ≤ 3) (hp : p < 1000) (w : World) :
    Calls Tryz.prog 73 #[.int .i64 (p : Int), .int .i64 (q : Int)] w fun e w' => e = .returned (.int .u32 ((rootN p q : Nat) : Int)) ∧ Tch (fun _ => False) w w' := by
  go_enter Tryz.func73, Tryz.ntmps73
  go_wp2_with fail
  go_loopg [5, 6] 40 (fun g lv hv W => ∃ t lo hi : Nat, g = 40 - t ∧ t ≤ 40 ∧ lv = .int .u64 lo ∧ hv = .int .u64 hi ∧ lo = bis p q t ∧ hi = bis p q t + 2 ^ (40 - t) ∧ Tch (fun _ => False) w W)
  case atStart => exact ⟨0, 0, 1099511627776, rfl, by omega, rfl, rfl, rfl, by simp [bis], Tch.refl _ _⟩
  case round =>
    obtain ⟨t, lo, hi, hg, ht, rfl, rfl, hlo, hhi, htc⟩ := hrel
    subst hg
    have hb := bis_le p q t ht
    by_cases htl : t < 40
    · rw [pow_half t htl] at hb hhi
      have hw1 : 1 ≤ 2 ^ (39 - t) := Nat.one_le_two_pow
      have hC := Lib.hid (fun W => above_any ((lo + hi) / 2) q p (by omega) hq1 hq hp W)
      have hmid : (lo + hi) / 2 = bis p q t + 2 ^ (39 - t) := by omega
      rw [show (((lo + hi) / 2 : Nat) : Int) = ((lo : Int) + (hi : Int)) / 2 from by omega] at hC
      have h1 : (1 : Int) < (hi : Int) - (lo : Int) := by omega
      have h2 : (hi : Int) ≤ 1099511627776 := by omega
      have h3 : (lo : Int) < (hi : Int) := by omega
      have hmidi : ((lo : Int) + (hi : Int)) / 2 = ((bis p q t + 2 ^ (39 - t) : Nat) : Int) := by omega
      replace hlo := Lib.hid hlo
      replace hhi := Lib.hid hhi
      have hmH := Lib.hid hmid
      replace hmidi := Lib.hid hmidi
      replace htc := Lib.hid htc
      clear hb hmid hw1
      cases hab : ab ((lo + hi) / 2) q p
      · have habH := Lib.hid hab
        rw [hab] at hC
        clear hab
        go_wp2_with (go_at_call 86; refine (hC.out _).mono ?_; rintro e w1 ⟨rfl, h⟩; have h := Lib.hid h)
        go_roundg (40 - (t + 1))
        case measure => omega
        case rel =>
          exact ⟨t + 1, bis p q t + 2 ^ (39 - t), hi, rfl, by omega, congrArg (Value.int .u64) hmidi.out, rfl, by rw [bis, if_neg (by rw [← hmH.out, habH.out]; decide)], by
            rw [bis, if_neg (by rw [← hmH.out, habH.out]; decide), show 40 - (t + 1) = 39 - t from by omega, hhi.out]; omega, htc.out.trans h.out⟩
      · have habH := Lib.hid hab
        rw [hab] at hC
        clear hab
        go_wp2_with (go_at_call 86; refine (hC.out _).mono ?_; rintro e w1 ⟨rfl, h⟩; have h := Lib.hid h)
        go_roundg (40 - (t + 1))
        case measure => omega
        case rel =>
          exact ⟨t + 1, lo, bis p q t + 2 ^ (39 - t), rfl, by omega, rfl, congrArg (Value.int .u64) hmidi.out, by rw [bis, if_pos (by rw [← hmH.out, habH.out])]; exact hlo.out, by
            rw [bis, if_pos (by rw [← hmH.out, habH.out]), show 40 - (t + 1) = 39 - t from by omega], htc.out.trans h.out⟩
    · obtain rfl : t = 40 := by omega
      have hhl : hi = lo + 1 := by rw [hhi, hlo]
      have h1 : ¬ (1 : Int) < (hi : Int) - (lo : Int) := by omega
      have h2 : (hi : Int) ≤ 1099511627776 := by omega
      have h3 : (lo : Int) < (hi : Int) := by omega
      have hres := Lib.hid (show rootN p q = lo % 4294967296 from by rw [hlo]; rfl)
      replace htc := Lib.hid htc
      clear hb hhl hlo hhi
      go_wp2_with fail
      go_ret
      refine ⟨?_, htc.out⟩
      rw [hres.out]
      rw [show ((lo % 4294967296 : Nat) : Int) = (lo : Int) % 4294967296 from by omega]
      rfl
end Go.Proofs.YtbefkoljcacpcaaGreatDoor.Ref
set_option linter.unusedVariables false
namespace Go.Proofs.YtbefkoljcacpcaaGreatDoor.Ref
def pstep (l : List Nat) (k : Nat) : List Nat := if l.any (fun d => k % d == 0) then l else l ++ [k]
def pst : Nat → List Nat
  | 0 => []
  | t + 1 => pstep (pst t) (t + 2)
theorem pst_small : ∀ t, ∀ d ∈ pst t, 2 ≤ d ∧ d < t + 2
  | 0, d, h => absurd h (by simp [pst])
  | t + 1, d, h => by
    rw [pst, pstep] at h
    split at h
    · have := pst_small t d h; omega
    · rcases List.mem_append.1 h with h | h
      · have := pst_small t d h; omega
      · rw [List.mem_singleton] at h; omega
theorem pst_mono : ∀ t u, t ≤ u → (pst t).length ≤ (pst u).length
  | t, 0, h => by obtain rfl : t = 0 := by omega
                  exact Nat.le_refl _
  | t, u + 1, h => by
    by_cases e : t = u + 1
    · subst e; exact Nat.le_refl _
    · have := pst_mono t u (by omega)
      rw [pst, pstep]
      split
      · exact this
      · simp; omega
theorem pst8 : (pst 17).length < 8 ∧ (pst 18).length = 8 := by decide +kernel
theorem pst64 : (pst 309).length < 64 ∧ (pst 310).length = 64 := by decide +kernel
def tab (n t q : Nat) : List (BitVec 32) := (pst t).map fun p => BitVec.ofNat 32 (rootN p q)
theorem tabH : tab 8 18 2 = Sha.H0 := by decide +kernel
theorem tabK : tab 64 310 3 = Sha.K := by decide +kernel
end Go.Proofs.YtbefkoljcacpcaaGreatDoor.Ref
set_option linter.unusedVariables false
set_option linter.unusedSimpArgs false
namespace Go.Proofs.YtbefkoljcacpcaaGreatDoor.Ref
open Go.RowKit Go.Proofs.YtbefkoljcacpcaaGreatDoor.B
def ic (l : List Nat) : List Value := l.map fun x => .int .i64 ((x : Nat) : Int)
theorem ic_get (l : List Nat) (i : Nat) (h : i < l.length) : (ic l)[i]? = some (.int .i64 ((l.getD i 0 : Nat) : Int)) := by
  simp [ic, List.getD_eq_getElem?_getD, List.getElem?_eq_getElem h]
theorem ic_append (a b : List Nat) : ic (a ++ b) = ic a ++ ic b := List.map_append ..
def RowI (w : World) (v : Value) (l : List Nat) : Prop := ∃ g cap, v = .slice (some ⟨g, 0, none⟩) l.length cap ∧ ∀ k, k < l.length → w.cell? ⟨g, k, none⟩ = some (.int .i64 ((l.getD k 0 : Nat) : Int))
theorem infoInt : (Tryz.prog.info? 3).map (fun i => (i.zero, i.size, i.bytes)) = some (some (.int .i64 0), 1, 8) := by kernel_rfl
theorem own_cells {w : World} {base : Nat} {g cap : Nat} {l : List Nat} (h : w.ownsRow base 3 1 (.slice (some ⟨g, 0, none⟩) l.length cap) l.length (ic l)) :
    ∀ k, k < l.length → w.cell? ⟨g, k, none⟩ = some (.int .i64 ((l.getD k 0 : Nat) : Int)) := by
  intro k hk
  rw [h.cellAt k (by omega), ic_get l k hk]
theorem any_next (l : List Nat) (k j : Nat) (h : j < l.length) : (l.take (j + 1)).any (fun d => k % d == 0) = ((l.take j).any (fun d => k % d == 0) || (k % l.getD j 0 == 0)) := by
  rw [List.take_add_one, List.any_append, List.getD_eq_getElem?_getD, List.getElem?_eq_getElem h]
  simp
theorem pst_app {w w0 w1 : World} {g cap t : Nat} {v : Value} (ho : w.ownsRow w0.heap.size 3 1 v (pst t).length (ic (pst t))) (ha : (pst t).any (fun d => (t + 2) % d == 0) = false) (ht : Tch (fun _ => False) w0 w)
    (o : Obj) (h1 : w1.ownsRow w0.heap.size 3 1 (.slice (some ⟨g, 0, none⟩) ((pst t).length + 1) cap) ((pst t).length + 1) (ic (pst t) ++ [.int .i64 ((t : Int) + 2)])) (h2 : (w.alloc o).grownBy w1 v.ownBlock) :
    w1.ownsRow w0.heap.size 3 1 (.slice (some ⟨g, 0, none⟩) ((pst t).length + 1) cap) (pst (t + 1)).length (ic (pst (t + 1))) ∧ Tch (fun _ => False) w0 w1 := by
  have e : pst (t + 1) = pst t ++ [t + 2] := by rw [pst, pstep, if_neg (by rw [ha]; decide)]
  rw [e, List.length_append, ic_append]
  exact ⟨h1, own_tch (ht.alloc _) (ho.alloc _) (Nat.le_refl _) h2⟩
set_option maxRecDepth 100000 in
set_option maxHeartbeats 4000000 in
theorem primes_any (n T : Nat) (hn : 1 ≤ n) (hn1 : n ≤ 100) (hT : T ≤ 400) (h1 : ∀ t, t < T → (pst t).length < n) (h2 : (pst T).length = n) (w : World) :
    Calls Tryz.prog 72 #[.int .i64 (n : Int)] w fun e w' => ∃ v, e = .returned v ∧ RowI w' v (pst T) ∧ Tch (fun _ => False) w w' := by
  obtain ⟨i3, hi3, hz3, hs3, hb3⟩ := info_parts infoInt
  have h1H := Lib.hid h1
  have h2H := Lib.hid h2
  have hst := Lib.hid (show w.ownsRow w.heap.size 3 1 (.slice none 0 0) (pst 0).length (ic (pst 0)) from ⟨rfl, .inl ⟨rfl, rfl⟩⟩)
  clear h1 h2
  go_enter Tryz.func72, Tryz.ntmps72
  go_wp2_with fail
  go_loopg [3, 4] T (fun g v kv W => ∃ t : Nat, g = T - t ∧ t ≤ T ∧ kv = .int .i64 ((t : Int) + 2) ∧ W.ownsRow w.heap.size 3 1 v (pst t).length (ic (pst t)) ∧ Tch (fun _ => False) w W)
  case atStart => exact ⟨0, rfl, by omega, rfl, hst.out, Tch.refl _ _⟩
  case round =>
    clear hst
    obtain ⟨t, hg, ht, rfl, ho, htc⟩ := hrel
    subst hg
    by_cases htl : t < T
    · have hlt := h1H.out t htl
      have hlti : ((pst t).length : Int) < (n : Int) := by omega
      have hti : (t : Int) < 400 := by omega
      have hsm := Lib.hid (pst_small t)
      have hoH := Lib.hid ho
      have htcH := Lib.hid htc
      rcases ho.2 with ⟨hv, hl0⟩ | ⟨gv, cv, cur, hv, _, _, _, _, _, _⟩
      · subst hv
        clear htc
        have hap := Lib.hid (fun g cap w1 o ha h1 h2 => pst_app (w1 := w1) (g := g) (cap := cap) hoH.out ha htcH.out o h1 h2)
        have hownH := hoH
        have hlti' : (0 : Int) < (n : Int) := by omega
        replace hl0 := Lib.hid hl0
        clear hlti
        clear ho
        go_wp2_with fail
        go_loopg [5, 6] (pst t).length (fun g iv jv W => ∃ j : Nat, g = (pst t).length - j ∧ j ≤ (pst t).length ∧ iv = .bool (!((pst t).take j).any (fun d => (t + 2) % d == 0)) ∧ jv = .int .i64 j ∧ W = wr)
        case atStart => exact ⟨0, rfl, by omega, rfl, rfl, rfl⟩
        case round =>
          obtain ⟨j, hgj, hj, rfl, rfl, rfl⟩ := hrel
          subst hgj
          by_cases hjl : j < (pst t).length
          · exact absurd hjl (by have := hl0.out; omega)
          · have hje : j = (pst t).length := by omega
            subst hje
            rw [List.take_of_length_le (Nat.le_refl _)]
            cases hA : (pst t).any (fun d => (t + 2) % d == 0)
            · have hap2 := Lib.hid (fun g cap w1 o h1 h2 => hap.out g cap w1 o hA h1 h2)
              clear hA
              go_wp2_with (at_builtin; refine wpList_append_lies _ (by rfl) _ _ _ (by rfl) w.heap.size 3 i3 _ 1 8 Tryz.underlying70 hi3 hz3 hs3 hb3 rfl (by omega) (.slice none 0 0) (pst t).length _ (by rfl) (hownH.out.alloc _) ⟨wr.heap.size, 0, none⟩ 1 1 [.int .i64 ((t : Int) + 2)] (by rfl) (by rfl) (World.news_of_block (heap_alloc_at wr _)) (by simp [Value.oneCell']) (by omega) (by unfold maxLen; omega) (by omega) (by simp; have := htcH.out.size; omega) (wr.heap.size + 1) (by simp) ?_; intro g cap w1 hown1 hgrow hat hlt)
              go_roundg (T - (t + 1))
              case measure => omega
              case rel => exact ⟨t + 1, rfl, by omega, by go_num, hap2.out _ _ _ _ hown1 hgrow⟩
            · have e := Lib.hid (show pst (t + 1) = pst t from by rw [pst, pstep, if_pos hA])
              clear hA
              go_wp2_with fail
              go_roundg (T - (t + 1))
              case measure => omega
              case rel => exact ⟨t + 1, rfl, by omega, by go_num, by rw [e.out]; exact hownH.out, htcH.out⟩
      · subst hv
        clear htc
        have hap := Lib.hid (fun g cap w1 o ha h1 h2 => pst_app (w1 := w1) (g := g) (cap := cap) hoH.out ha htcH.out o h1 h2)
        have hownH := hoH
        have hcs := Lib.hid (own_cells ho)
        clear ho
        go_wp2_with fail
        go_loopg [5, 6] (pst t).length (fun g iv jv W => ∃ j : Nat, g = (pst t).length - j ∧ j ≤ (pst t).length ∧ iv = .bool (!((pst t).take j).any (fun d => (t + 2) % d == 0)) ∧ jv = .int .i64 j ∧ W = wr)
        case atStart => exact ⟨0, rfl, by omega, rfl, rfl, rfl⟩
        case round =>
          obtain ⟨j, hgj, hj, rfl, rfl, rfl⟩ := hrel
          subst hgj
          by_cases hjl : j < (pst t).length
          · have hc := hcs.out j hjl
            have hd := hsm.out ((pst t).getD j 0) (by rw [List.getD_eq_getElem?_getD, List.getElem?_eq_getElem hjl]; exact List.getElem_mem hjl)
            have hnx := Lib.hid (any_next (pst t) (t + 2) j hjl)
            have hjli : (j : Int) < ((pst t).length : Int) := by omega
            generalize hdd : (pst t).getD j 0 = d at *
            have hd2 : (2 : Int) ≤ (d : Int) := by omega
            have hd3 : (d : Int) < 402 := by omega
            have hmod : ((t : Int) + 2) % (d : Int) = (((t + 2) % d : Nat) : Int) := (Int.natCast_emod (t + 2) d).symm
            clear hdd
            generalize hA : ((pst t).take j).any (fun d => (t + 2) % d == 0) = A at *
            by_cases hz : (t + 2) % d = 0
            · have hz0 : ((t : Int) + 2) % (d : Int) = 0 := by omega
              replace hz := Lib.hid hz
              clear hmod hA
              go_wp2_with fail
              go_roundg ((pst t).length - (j + 1))
              case measure => omega
              case rel => exact ⟨j + 1, rfl, by omega, by rw [hnx.out, hz.out]; simp, by go_num, rfl⟩
            · have hz0 : ¬ ((t : Int) + 2) % (d : Int) = 0 := by omega
              replace hz := Lib.hid hz
              clear hmod hA
              go_wp2_with fail
              go_roundg ((pst t).length - (j + 1))
              case measure => omega
              case rel => exact ⟨j + 1, rfl, by omega, by rw [hnx.out, beq_eq_false_iff_ne.2 hz.out]; simp, by go_num, rfl⟩
          · have hje : j = (pst t).length := by omega
            subst hje
            rw [List.take_of_length_le (Nat.le_refl _)]
            cases hA : (pst t).any (fun d => (t + 2) % d == 0)
            · have hap2 := Lib.hid (fun g cap w1 o h1 h2 => hap.out g cap w1 o hA h1 h2)
              clear hA
              go_wp2_with (at_builtin; refine wpList_append_lies _ (by rfl) _ _ _ (by rfl) w.heap.size 3 i3 _ 1 8 Tryz.underlying70 hi3 hz3 hs3 hb3 rfl (by omega) (.slice (some ⟨gv, 0, none⟩) (pst t).length cv) (pst t).length _ (by rfl) (hownH.out.alloc _) ⟨wr.heap.size, 0, none⟩ 1 1 [.int .i64 ((t : Int) + 2)] (by rfl) (by rfl) (World.news_of_block (heap_alloc_at wr _)) (by simp [Value.oneCell']) (by omega) (by unfold maxLen; omega) (by omega) (by simp; have := htcH.out.size; omega) (wr.heap.size + 1) (by simp) ?_; intro g cap w1 hown1 hgrow hat hlt)
              go_roundg (T - (t + 1))
              case measure => omega
              case rel => exact ⟨t + 1, rfl, by omega, by go_num, hap2.out _ _ _ _ hown1 hgrow⟩
            · have e := Lib.hid (show pst (t + 1) = pst t from by rw [pst, pstep, if_pos hA])
              clear hA
              go_wp2_with fail
              go_roundg (T - (t + 1))
              case measure => omega
              case rel => exact ⟨t + 1, rfl, by omega, by go_num, by rw [e.out]; exact hownH.out, htcH.out⟩
    · obtain rfl : t = T := by omega
      have hli := h2H.out
      have hlin : ((pst t).length : Int) = (n : Int) := by omega
      rcases ho.2 with ⟨hv, hl0⟩ | ⟨gv, cv, cur, hv, _, _, _, _, _, _⟩
      · omega
      · subst hv
        have hcs := Lib.hid (own_cells ho)
        replace htc := Lib.hid htc
        clear ho
        have hlf : ¬ ((pst t).length : Int) < (n : Int) := by omega
        clear hlin
        replace hli := Lib.hid hli
        go_wp2_with fail
        go_ret
        exact ⟨_, rfl, ⟨gv, cv, rfl, hcs.out⟩, htc.out⟩
end Go.Proofs.YtbefkoljcacpcaaGreatDoor.Ref
set_option linter.unusedVariables false
set_option linter.unusedSimpArgs false
namespace Go.Proofs.YtbefkoljcacpcaaGreatDoor.Ref
open Go.RowKit Go.Proofs.YtbefkoljcacpcaaGreatDoor.B Go.Proofs.YtbefkoljcacpcaaGreatDoor.Sha
def uvs (l : List (BitVec 32)) : List Value := l.map uv
theorem uvs_append (a b : List (BitVec 32)) : uvs (a ++ b) = uvs a ++ uvs b := List.map_append ..
theorem info32 : (Tryz.prog.info? 97).map (fun i => (i.zero, i.size, i.bytes)) = some (some (.int .u32 0), 1, 4) := by kernel_rfl
theorem rootN_lt (p q : Nat) : rootN p q < 4294967296 := Nat.mod_lt _ (by omega)
theorem tab_next (T q j : Nat) (hj : j < (pst T).length) : (tab 0 T q).take (j + 1) = (tab 0 T q).take j ++ [BitVec.ofNat 32 (rootN ((pst T).getD j 0) q)] := by
  rw [List.take_add_one]
  congr 1
  unfold tab
  rw [List.getElem?_map, List.getElem?_eq_getElem hj, List.getD_eq_getElem?_getD, List.getElem?_eq_getElem hj]
  rfl
theorem tab_app {w w0 w1 : World} {g cap T q j : Nat} {v : Value} {o : Obj} (ho : w.ownsRow w0.heap.size 97 1 v j (uvs ((tab 0 T q).take j))) (hj : j < (pst T).length) (ht : Tch (fun _ => False) w0 w)
    (h1 : w1.ownsRow w0.heap.size 97 1 (.slice (some ⟨g, 0, none⟩) (j + 1) cap) (j + 1) (uvs ((tab 0 T q).take j) ++ [.int .u32 ((rootN ((pst T).getD j 0) q : Nat) : Int)])) (h2 : (w.alloc o).grownBy w1 v.ownBlock) :
    w1.ownsRow w0.heap.size 97 1 (.slice (some ⟨g, 0, none⟩) (j + 1) cap) (j + 1) (uvs ((tab 0 T q).take (j + 1))) ∧ Tch (fun _ => False) w0 w1 := by
  rw [tab_next T q j hj, uvs_append]
  have e : uvs [BitVec.ofNat 32 (rootN ((pst T).getD j 0) q)] = [.int .u32 ((rootN ((pst T).getD j 0) q : Nat) : Int)] := by
    simp only [uvs, uv, List.map_cons, List.map_nil, nv_of _ (rootN_lt _ _)]
  rw [e]
  exact ⟨h1, own_tch (ht.alloc _) (ho.alloc _) (Nat.le_refl _) h2⟩
set_option maxRecDepth 100000 in
set_option maxHeartbeats 4000000 in
theorem Table_any (n T q : Nat) (hn : 1 ≤ n) (hn1 : n ≤ 100) (hT : T ≤ 400) (h1 : ∀ t, t < T → (pst t).length < n) (h2 : (pst T).length = n) (hq1 : 1 ≤ q) (hq : q ≤ 3) (w : World) :
    Calls Tryz.prog 53 #[.int .i64 (n : Int), .int .i64 (q : Int)] w fun e w' => ∃ v, e = .returned v ∧ w'.ownsRow w.heap.size 97 1 v n (uvs (tab 0 T q)) ∧ Tch (fun _ => False) w w' := by
  obtain ⟨i3, hi3, hz3, hs3, hb3⟩ := info_parts info32
  have hC := Lib.hid (primes_any n T hn hn1 hT h1 h2 w)
  have h2H := Lib.hid h2
  have hsm := Lib.hid (pst_small T)
  clear h1 h2
  go_enter Tryz.func53, Tryz.ntmps53
  go_wp2_with (go_at_call 72; refine (hC.out).mono ?_; rintro e w1 ⟨vp, rfl, hp, htp⟩; obtain ⟨gp, cp, rfl, hcp⟩ := hp; replace hcp := Lib.hid hcp; replace htp := Lib.hid htp)
  have hst := Lib.hid (show w1.ownsRow w1.heap.size 97 1 (.slice none 0 0) 0 (uvs ((tab 0 T q).take 0)) from ⟨rfl, .inl ⟨rfl, rfl⟩⟩)
  have hlen : ((pst T).length : Int) = (n : Int) := by have := h2H.out; omega
  go_loopg [5, 7] n (fun g v i W => ∃ j : Nat, g = n - j ∧ j ≤ n ∧ i = .int .i64 j ∧ W.ownsRow w1.heap.size 97 1 v j (uvs ((tab 0 T q).take j)) ∧ Tch (fun _ => False) w1 W)
  case atStart => exact ⟨0, rfl, by omega, rfl, hst.out, Tch.refl _ _⟩
  case round =>
    clear hst hC
    obtain ⟨j, hg, hj, rfl, ho, ht⟩ := hrel
    subst hg
    by_cases hjl : j < n
    · have hc := ht.cell (hcp.out j (by have := h2H.out; omega)) (fun e => e)
      have hji : (j : Int) < (n : Int) := by omega
      have hd := hsm.out ((pst T).getD j 0) (by rw [List.getD_eq_getElem?_getD, List.getElem?_eq_getElem (by have := h2H.out; omega)]; exact List.getElem_mem _)
      have hR := Lib.hid (root_any ((pst T).getD j 0) q hq1 hq (by omega) wr)
      have hoH := Lib.hid ho
      have htH := Lib.hid ht
      have hap := Lib.hid (fun g cap w1 w2 o (h0 : Tch (fun _ => False) wr w2) ho h1 h2 => tab_app (w := w2) (w1 := w1) (g := g) (cap := cap) (o := o) (v := u5) (q := q) ho (show j < (pst T).length from by have := h2H.out; omega) (htH.out.trans h0) h1 h2)
      clear ho ht
      generalize (pst T).getD j 0 = p at *
      generalize rootN p q = rr at *
      go_wp2_with (first
        | (go_at_call 73; refine (hR.out).mono ?_; rintro e w2 ⟨rfl, hw2⟩; have hw2H := Lib.hid hw2; have hown2 := Lib.hid (own_keep hoH.out hw2); clear hw2)
        | (at_builtin; refine wpList_append_lies _ (by rfl) _ _ _ (by rfl) w1.heap.size 97 i3 _ 1 4 Tryz.underlying111 hi3 hz3 hs3 hb3 rfl (by omega) u5 j _ (by rfl) (hown2.out.alloc _) ⟨w2.heap.size, 0, none⟩ 1 1 [.int .u32 (rr : Int)] (by rfl) (by rfl) (World.news_of_block (heap_alloc_at w2 _)) (by simp [Value.oneCell']) (by omega) (by unfold maxLen; omega) (by omega) (by simp; have := htH.out.size; have := hw2H.out.size; omega) (w2.heap.size + 1) (by simp) ?_; intro g cap w3 hown1 hgrow hat hlt))
      go_roundg (n - (j + 1))
      case measure => omega
      case rel =>
        have := hap.out _ _ _ _ _ hw2H.out hown2.out hown1 hgrow
        exact ⟨j + 1, rfl, by omega, by go_num, this.1, this.2⟩
    · obtain rfl : j = n := by omega
      rw [List.take_of_length_le (by unfold tab; rw [List.length_map, h2H.out]; exact Nat.le_refl _)] at ho
      have hoH := Lib.hid ho
      have htH := Lib.hid ht
      clear ho ht
      go_wp2_with fail
      go_ret
      exact ⟨_, rfl, hoH.out.mono htp.out.size, htp.out.trans htH.out⟩
theorem tabH' : tab 0 18 2 = H0 := tabH
theorem tabK' : tab 0 310 3 = K := tabK
theorem TableH (w : World) : Calls Tryz.prog 53 #[.int .i64 8, .int .i64 2] w fun e w' => ∃ v, e = .returned v ∧ w'.ownsRow w.heap.size 97 1 v 8 (uvs H0) ∧ Tch (fun _ => False) w w' := by
  have := Table_any 8 18 2 (by omega) (by omega) (by omega) (fun t ht => Nat.lt_of_le_of_lt (pst_mono t 17 (by omega)) pst8.1) pst8.2 (by omega) (by omega) w
  rwa [tabH'] at this
theorem TableK (w : World) : Calls Tryz.prog 53 #[.int .i64 64, .int .i64 3] w fun e w' => ∃ v, e = .returned v ∧ w'.ownsRow w.heap.size 97 1 v 64 (uvs K) ∧ Tch (fun _ => False) w w' := by
  have := Table_any 64 310 3 (by omega) (by omega) (by omega) (fun t ht => Nat.lt_of_le_of_lt (pst_mono t 309 (by omega)) pst64.1) pst64.2 (by omega) (by omega) w
  rwa [tabK'] at this
end Go.Proofs.YtbefkoljcacpcaaGreatDoor.Ref
set_option linter.unusedVariables false
set_option linter.unusedSimpArgs false
namespace Go.Proofs.YtbefkoljcacpcaaGreatDoor.Ref
open Go.RowKit Go.Proofs.YtbefkoljcacpcaaGreatDoor.B Go.Proofs.YtbefkoljcacpcaaGreatDoor.Sha
def RowB (w : World) (base : Nat) (v : Value) (n : Nat) (l : List UInt8) : Prop := ∃ g cap cells fz, v = .slice (some ⟨g, 0, none⟩) n cap ∧ l.length = n ∧ base ≤ g ∧ w.heap[g]? = some (.cells cells 5 fz) ∧ cells.size = cap ∧ n ≤ cap ∧ cap ≤ maxLen ∧
  cells.toList.take n = bc l ∧ (fz = (0, 0) ∨ cap ≤ fz.1)
theorem RowB.cells {w : World} {base : Nat} {n g cap : Nat} {l : List UInt8} (h : RowB w base (.slice (some ⟨g, 0, none⟩) n cap) n l) : ∀ k, k < n → w.cell? ⟨g, k, none⟩ = some (.int .u8 ((l.getD k 0).toNat : Int)) := by
  obtain ⟨g', cap', cells, fz, hv, hl, _, hg, _, _, _, ht, _⟩ := h
  injection hv with e1 e2 e3
  injection e1 with e1
  injection e1 with e1
  subst e1
  intro k hk
  rw [cell_of hg, ← Array.getElem?_toList, ← show (cells.toList.take n)[k]? = cells.toList[k]? from by rw [List.getElem?_take, if_pos hk], ht, bc_get _ _ (by omega), List.getD_eq_getElem?_getD, List.getElem?_eq_getElem (by omega)]
  rfl
theorem RowB.keep {w w' : World} {base n : Nat} {v : Value} {l : List UInt8} (h : RowB w base v n l) (ht : Tch (fun _ => False) w w') : RowB w' base v n l := by
  obtain ⟨g, cap, cells, fz, a, b, c, d, e⟩ := h
  exact ⟨g, cap, cells, fz, a, b, c, ht.heap d (fun e => e), e⟩
theorem rowB_append (ty : TypeId) (w : World) (base : Nat) (v : Value) (n : Nat) (l : List UInt8) (b : UInt8) (h : RowB w base v n l) (ad : Addr) (c : Nat) (hc : w.cell? ad = some (.int .u8 (b.toNat : Int))) (hl : n + 1 ≤ 140737488355328) (hb : base ≤ w.heap.size) :
    ∃ g cap w', (Builtin.append_ #[30, 30] ty #[v, .slice (some ad) 1 c]).run Tryz.prog w = .ok (.slice (some ⟨g, 0, none⟩) (n + 1) cap) w' ∧ RowB w' base (.slice (some ⟨g, 0, none⟩) (n + 1) cap) (n + 1) (l ++ [b]) ∧ Below base w w' := by
  obtain ⟨g, cap, cells, fz, rfl, hll, hbg, hg, hcs, hnc, hcm, ht, hfz⟩ := h
  obtain ⟨i8, hi8, hz8, hs8, hb8⟩ := info8
  have hadd : ad.add 0 = ad := by unfold Addr.add; split <;> simp_all
  have hnews : ∀ j u, ([Value.int .u8 (b.toNat : Int)] : List Value)[j]? = some u → w.cell? (ad.add j) = some u := by
    intro j u hj
    match j, hj with
    | 0, hj => rw [hadd, hc]; simpa using hj
  by_cases hroom : n + 1 ≤ cap
  · have hr := run_append_room_cells (P := Tryz.prog) w 30 ty 5 i8 Tryz.underlying30 hi8 g 0 n cap ad 1 c [.int .u8 (b.toNat : Int)] (by simp [hs8]) hnews (by simp [Value.oneCell']) hroom
      (by intro j hj; obtain rfl : j = 0 := by simpa using hj
          rw [cell_of hg, hs8, Array.getElem?_eq_getElem (by omega)]; rfl)
      (by intro j hj; obtain rfl : j = 0 := by simpa using hj
          unfold World.frozen?; rw [hg, hs8]
          rcases hfz with rfl | hfz
          · simp
          · simp; omega)
    refine ⟨g, cap, _, hr, ?_, ?_⟩
    · rw [hs8, show 0 + n * 1 = n from by omega]
      refine ⟨g, cap, cells.setIfInBounds n (.int .u8 (b.toNat : Int)), fz, rfl, by simp [hll], hbg, ?_, by simp [hcs], hroom, hcm, ?_, hfz⟩
      · exact heap_set_some hg n _
      · rw [bc_append, ← ht, Array.toList_setIfInBounds, List.take_add_one, List.take_set_of_le (Nat.le_refl _), List.getElem?_set_self (by rw [Array.length_toList]; omega)]
        rfl
    · rw [hs8]; exact (Below.refl _ _).setCell hbg _
  · have holds : ∀ j u, (bc l)[j]? = some u → w.cell? ((⟨g, 0, none⟩ : Addr).add j) = some u := by
      intro j u hj
      have hjn : j < n := by
        have := (List.getElem?_eq_some_iff.1 hj).1
        rw [bc_length] at this; omega
      rw [add0, cell_of hg, ← Array.getElem?_toList, ← show (cells.toList.take n)[j]? = cells.toList[j]? from by rw [List.getElem?_take, if_pos hjn], ht, hj]
    obtain ⟨v', w', hr, ho, hgr⟩ := run_append_arg_grows (P := Tryz.prog) w 30 ty 5 i8 _ 1 1 Tryz.underlying30 hi8 hz8 hs8 hb8 rfl (by omega) ⟨g, 0, none⟩ n cap (bc l) (by rw [bc_length]; omega) holds ad 1 c [.int .u8 (b.toNat : Int)] rfl hnews (by omega) (by unfold maxLen; omega) (by omega)
    obtain ⟨_, h0 | ⟨g', cap', cur, rfl, hbg', hg', hnc', hcm', hcs', ht'⟩⟩ := ho
    · exact absurd h0.2 (by omega)
    · refine ⟨g', cap', w', hr, ⟨g', cap', cur, (0, 0), rfl, by simp [hll], by omega, hg', by omega, hnc', hcm', ?_, .inl rfl⟩, ?_⟩
      · rw [bc_append]; rw [Nat.mul_one] at ht'; exact ht'
      · exact ⟨hgr.os, hgr.tape, hgr.output, hgr.size, fun k hk => hgr.block k (by omega) (by simp)⟩
theorem wpList_rowB {ops : Array Oper} {rest : List Oper} {o : Oper} {a : Act} {w : World} {Q : Exit → Act → World → Prop} (hgd : o.guard = none) (s x : Operand)
    (ho : o.op = .call { callee := .builtin .append, args := #[s, x], argTypes := #[30, 30] })
    (base : Nat) (v : Value) (n : Nat) (l : List UInt8) (b : UInt8) (hs : a.eval s = v) (h : RowB w base v n l) (ad : Addr) (c : Nat) (hx : a.eval x = .slice (some ad) 1 c)
    (hc : w.cell? ad = some (.int .u8 (b.toNat : Int))) (hl : n + 1 ≤ 140737488355328) (hb : base ≤ w.heap.size)
    (hk : ∀ g cap w', RowB w' base (.slice (some ⟨g, 0, none⟩) (n + 1) cap) (n + 1) (l ++ [b]) → Below base w w' → wpList Tryz.prog ops Q rest (a.put o.dst (.slice (some ⟨g, 0, none⟩) (n + 1) cap)) w') : wpList Tryz.prog ops Q (o :: rest) a w := by
  refine wpList_plain hgd fun K hK => ?_
  obtain ⟨g, cap, w', hr, h2, h3⟩ := rowB_append o.type w base v n l b h ad c hc hl hb
  unfold Oper.wp execOp
  simp only [ho, resolve, invoke, builtin, Sem.run_bind, Sem.run_pure, Result.andThen_ok, List.map_toArray, List.map_cons, List.map_nil, hs, hx, hr]
  exact hK _ _ (hk g cap w' h2 h3)
end Go.Proofs.YtbefkoljcacpcaaGreatDoor.Ref
set_option linter.unusedVariables false
set_option linter.unusedSimpArgs false
namespace Go.Proofs.YtbefkoljcacpcaaGreatDoor.Ref
open Go.RowKit Go.Proofs.YtbefkoljcacpcaaGreatDoor.B Go.Proofs.YtbefkoljcacpcaaGreatDoor.Sha Go.Proofs.YtbefkoljcacpcaaGreatDoorW.PrintLast
theorem flat_le (l : List (BitVec 32)) : (l.flatMap ofWord).length ≤ 4 * l.length := by
  induction l with
  | nil => exact Nat.le_refl _
  | cons a l ih => rw [List.flatMap_cons, List.length_append, List.length_cons]; have : (ofWord a).length = 4 := rfl; omega
theorem conv4 (W : World) (x : BitVec 32) :
    (convert 30 9 (.slice (some ⟨W.heap.size, 0, none⟩) 4 4)).run Tryz.prog (W.alloc (.cells #[.int .u8 (nv x / 16777216 % 256), .int .u8 (nv x / 65536 % 256), .int .u8 (nv x / 256 % 256), .int .u8 (nv x % 256)] 5)) = .ok (.string ⟨(ofWord x).toArray⟩) (W.alloc (.cells #[.int .u8 (nv x / 16777216 % 256), .int .u8 (nv x / 65536 % 256), .int .u8 (nv x / 256 % 256), .int .u8 (nv x % 256)] 5)) := by
  rw [show (#[.int .u8 (nv x / 16777216 % 256), .int .u8 (nv x / 65536 % 256), .int .u8 (nv x / 256 % 256), .int .u8 (nv x % 256)] : Array Value) = (bc (ofWord x)).toArray from congrArg List.toArray (word_cells x)]
  refine run_convert_bytes_back _ 30 9 5 _ 4 (ofWord x) Tryz.underlying30 Tryz.underlying5 Tryz.underlying9 fun j hj => ?_
  rw [add0, cell_of (heap_alloc_at _ _), List.getElem?_toArray, bc_get _ j hj]
theorem conv4d (W : World) (x : BitVec 32) :
    (convert 30 9 (.slice (some ⟨W.heap.size, 0, none⟩) 4 4)).run Tryz.prog (W.alloc (.cells #[.int .u8 (nv x / 16777216 % 256), .int .u8 (nv x / 65536 % 256), .int .u8 (nv x / 256 % 256), .int .u8 (nv x % 256)] 5)).drew = .ok (.string ⟨(ofWord x).toArray⟩) (W.alloc (.cells #[.int .u8 (nv x / 16777216 % 256), .int .u8 (nv x / 65536 % 256), .int .u8 (nv x / 256 % 256), .int .u8 (nv x % 256)] 5)).drew := conv4 W.drew x
theorem conv4h (W : World) (x : BitVec 32) :
    (convert 30 9 (.slice (some ⟨W.heap.size, 0, none⟩) 4 4)).run Tryz.prog (W.alloc (.cells #[.int .u8 (IntKind.u8.wrap (nv x / 16777216)), .int .u8 (IntKind.u8.wrap (nv x / 65536)), .int .u8 (IntKind.u8.wrap (nv x / 256)), .int .u8 (IntKind.u8.wrap (nv x))] 5)).drew = .ok (.string ⟨(ofWord x).toArray⟩) (W.alloc (.cells #[.int .u8 (IntKind.u8.wrap (nv x / 16777216)), .int .u8 (IntKind.u8.wrap (nv x / 65536)), .int .u8 (IntKind.u8.wrap (nv x / 256)), .int .u8 (IntKind.u8.wrap (nv x))] 5)).drew := by
  rw [IntKind.wrap_u8, IntKind.wrap_u8, IntKind.wrap_u8, IntKind.wrap_u8]
  exact conv4d W x
theorem uvs_get (l : List (BitVec 32)) (i : Nat) (h : i < l.length) : (uvs l)[i]? = some (.int .u32 (nv (l.getD i 0))) := by
  simp [uvs, uv, List.getD_eq_getElem?_getD, List.getElem?_eq_getElem h]
theorem rowB_of (w : World) (s : ByteArray) (hs : s.size ≤ 140737488355328) : ∃ cap w1, (convert 9 30 (.string s)).run Tryz.prog w = .ok (.slice (some ⟨w.heap.size, 0, none⟩) s.size cap) w1 ∧
    RowB w1 w.heap.size (.slice (some ⟨w.heap.size, 0, none⟩) s.size cap) s.size s.data.toList ∧ Below w.heap.size w w1 := by
  obtain ⟨cap, w1, cells, fz, h1, h2, h3, h4, h5, h6, h7, _, h8, h9⟩ := bytes_of w s
  exact ⟨cap, w1, h1, ⟨_, _, cells, fz, rfl, len_list s, Nat.le_refl _, h4, h5, h6, h9 (by unfold maxLen; omega), h7, .inr (by omega)⟩, h2⟩
theorem RowB.form {w : World} {base n : Nat} {v : Value} {l : List UInt8} (h : RowB w base v n l) : ∃ g cap, v = .slice (some ⟨g, 0, none⟩) n cap := by
  obtain ⟨g, cap, cells, fz, hv, _⟩ := h
  exact ⟨g, cap, hv⟩
theorem RowB.lt {w : World} {base n : Nat} {v : Value} {l : List UInt8} (h : RowB w base v n l) : base < w.heap.size := by
  obtain ⟨g, cap, cells, fz, hv, _, hb, hg, _⟩ := h
  have := heap_lt hg
  omega
theorem cell1 (w : World) (z : Int) (b : UInt8) (h : z = (b.toNat : Int)) : (w.alloc (.cells #[.int .u8 z] 5)).cell? ⟨w.heap.size, 0, none⟩ = some (.int .u8 (b.toNat : Int)) := by
  subst h; rw [cell_of (heap_alloc_at w _)]; rfl
theorem made_uc : madeCells #[Value.int .u32 0] 64 = ucells zeros64 := by
  kernel_rfl
def Mk (w0 w : World) (l : List (BitVec 32)) : Prop := w.heap[w0.heap.size]? = some (.cells (ucells l) 97 (0, 0)) ∧ Below w0.heap.size w0 w
theorem mk_cell {w0 w : World} {l : List (BitVec 32)} {p : Addr} {v : Value} (h : Mk w0 w l) (hc : w0.cell? p = some v) : w.cell? p = some v :=
  (Tch.of_new h.2).cell (S := fun _ => False) hc (fun e => e)
theorem mk_set {w0 w : World} {l : List (BitVec 32)} {v : Int} (h : Mk w0 w l) (i : Nat) (x : BitVec 32) (hv : v = nv x) : Mk w0 (w.setCell ⟨w0.heap.size, i, none⟩ (.int .u32 v)) (l.set i x) := by
  subst hv
  exact ⟨by rw [heap_set_some h.1, ucells_set], h.2.setCell (Nat.le_refl _) _⟩
theorem mk_drew {w0 w : World} {l : List (BitVec 32)} (h : Mk w0 w l) : Mk w0 w.drew l := ⟨h.1, ⟨h.2.os, h.2.tape, h.2.output, h.2.size, h.2.block⟩⟩
theorem mk_at {w0 w : World} {l : List (BitVec 32)} (h : Mk w0 w l) (i : Nat) (hi : i < l.length) : w.cell? ⟨w0.heap.size, i, none⟩ = some (.int .u32 (nv (l.getD i 0))) := by
  rw [cell_of h.1, ucells_get l i hi]
theorem word_val {blk : List UInt8} {t : Nat} (c0 c1 c2 c3 : UInt8) (h0 : blk.getD (4 * t) 0 = c0) (h1 : blk.getD (4 * t + 1) 0 = c1) (h2 : blk.getD (4 * t + 2) 0 = c2) (h3 : blk.getD (4 * t + 3) 0 = c3) :
    bits .or .u32 (bits .or .u32 (bits .or .u32 ((c0.toNat : Int) % 4294967296 * 16777216 % 4294967296) ((c1.toNat : Int) % 4294967296 * 65536 % 4294967296)) ((c2.toNat : Int) % 4294967296 * 256 % 4294967296)) ((c3.toNat : Int) % 4294967296) = nv (word blk t) := by
  have e : ∀ c : UInt8, (c.toNat : Int) % 4294967296 = nv (BitVec.ofNat 32 c.toNat) := fun c => by rw [byte_mod, nv_of _ (by have := c.toNat_lt; omega)]
  have s24 : ∀ x : BitVec 32, nv x * (16777216 : Int) % (4294967296 : Int) = nv (x <<< 24) := fun x => nv_shl x 24
  have s16 : ∀ x : BitVec 32, nv x * (65536 : Int) % (4294967296 : Int) = nv (x <<< 16) := fun x => nv_shl x 16
  have s8 : ∀ x : BitVec 32, nv x * (256 : Int) % (4294967296 : Int) = nv (x <<< 8) := fun x => nv_shl x 8
  rw [e, e, e, e, s24, s16, s8, nv_or, nv_or, nv_or]
  unfold word
  rw [h0, h1, h2, h3]
  congr 1
  simp only [BitVec.shiftLeft_or_distrib, ← BitVec.shiftLeft_add, BitVec.or_assoc]
theorem keep_set {w : World} {b k t n : Nat} {u v : Value} (h : w.cell? ⟨b, k, none⟩ = some u) (hk : ¬ (k = t)) : ((w.drewN n).setCell ⟨b, t, none⟩ v).cell? ⟨b, k, none⟩ = some u := by
  have h' : (w.drewN n).cell? ⟨b, k, none⟩ = some u := h
  rw [← h']
  exact World.cell?_setCell_other (a := ⟨b, t, none⟩) (b := ⟨b, k, none⟩) _ _ (by intro e; injection e with e1 e2; exact hk e2.symm)
theorem sched_val2 (x16 x15 x7 x2 : BitVec 32) : IntKind.u32.wrap (IntKind.u32.wrap (IntKind.u32.wrap (nv x16 + bits .xor .u32 (bits .xor .u32 (nv (ror x15 7)) (nv (ror x15 18))) (nv x15 / 8)) + nv x7) + bits .xor .u32 (bits .xor .u32 (nv (ror x2 17)) (nv (ror x2 19))) (nv x2 / 1024)) = nv (x16 + s0 x15 + x7 + s1 x2) := by
  rw [nv_shr3, nv_shr10, nv_xor, nv_xor, nv_xor, nv_xor, nv_addw, nv_addw, nv_addw]; rfl
theorem own_eight {w : World} {base g c : Nat} {x0 x1 x2 x3 x4 x5 x6 x7 : BitVec 32} (h : w.ownsRow base 97 1 (.slice (some ⟨g, 0, none⟩) 8 c) 8 (uvs [x0, x1, x2, x3, x4, x5, x6, x7])) :
    ∀ j u, ([.int .u32 (nv x0), .int .u32 (nv x1), .int .u32 (nv x2), .int .u32 (nv x3), .int .u32 (nv x4), .int .u32 (nv x5), .int .u32 (nv x6), .int .u32 (nv x7)] : List Value)[j]? = some u → w.cell? ((⟨g, 0, none⟩ : Addr).add j) = some u := by
  intro j u hj
  have hjl := (List.getElem?_eq_some_iff.1 hj).1
  rw [add0, h.cellAt j (by simpa using hjl)]
  exact hj
def RowV (lo : Nat) (w : World) (v : Value) (l : List (BitVec 32)) : Prop := ∃ g cap, v = .slice (some ⟨g, 0, none⟩) 8 cap ∧ lo ≤ g ∧ ∀ k, k < 8 → w.cell? ⟨g, k, none⟩ = some (.int .u32 (nv (l.getD k 0)))
theorem rowV_of {w : World} {base g c : Nat} {x0 x1 x2 x3 x4 x5 x6 x7 : BitVec 32} (h : w.ownsRow base 97 1 (.slice (some ⟨g, 0, none⟩) (0 + 8) c) (0 + 8) ([] ++ uvs [x0, x1, x2, x3, x4, x5, x6, x7])) : RowV base w (.slice (some ⟨g, 0, none⟩) 8 c) [x0, x1, x2, x3, x4, x5, x6, x7] :=
  ⟨g, c, rfl, (h.lt g rfl).1, fun k hk => by rw [h.cellAt k (by omega)]; exact uvs_get _ k hk⟩
theorem own_empty (w : World) : (w.alloc (.cells #[] 97)).ownsRow w.heap.size 97 1 (.slice (some ⟨w.heap.size, 0, none⟩) 0 0) 0 [] :=
  ⟨rfl, .inr ⟨_, 0, #[], rfl, Nat.le_refl _, heap_alloc_at _ _, Nat.le_refl _, by unfold maxLen; omega, rfl, rfl⟩⟩
theorem drewN_add (w : World) (m k : Nat) : (w.drewN m).drewN k = w.drewN (m + k) := by
  simp [World.drewN, Nat.add_assoc]
theorem rturn_q (x : BitVec 32) (n : Int) (hn : Cnt n) (w : World) (m : Nat) :
    Calls Tryz.prog 54 #[.int .u32 (nv x), .int .i64 n] (w.drewN m) fun e w' => e = .returned (.int .u32 (nv (ror x n.toNat))) ∧ ∃ k, w' = w.drewN k :=
  (rturn_any x n hn (w.drewN m)).mono fun _ _ h => ⟨h.1, by obtain ⟨k, hk⟩ := h.2; exact ⟨m + k, by rw [hk]; exact drewN_add w m k⟩⟩
theorem nv_add5 (a b c d e : BitVec 32) : (nv a + nv b + nv c + nv d + nv e) % (4294967296 : Int) = nv (a + b + c + d + e) := by
  rw [← nv_add, ← nv_add, ← nv_add, ← nv_add]; omega
theorem rone_val (y4 y5 y6 y7 kk wk : BitVec 32) : (nv y7 + bits .xor .u32 (bits .xor .u32 (nv (ror y4 6)) (nv (ror y4 11))) (nv (ror y4 25)) + bits .or .u32 (bits .and .u32 (nv y4) (nv y5)) (bits .and .u32 (bits .xor .u32 IntKind.u32.max (nv y4)) (nv y6)) + nv kk + nv wk) % (4294967296 : Int) = nv (y7 + S1 y4 + ch y4 y5 y6 + kk + wk) := by
  rw [nv_not, nv_and, nv_and, nv_or, nv_xor, nv_xor, nv_add5, ch_or]; rfl
theorem rtwo_val (y0 y1 y2 : BitVec 32) : (bits .xor .u32 (bits .xor .u32 (nv (ror y0 2)) (nv (ror y0 13))) (nv (ror y0 22)) + bits .or .u32 (bits .or .u32 (bits .and .u32 (nv y0) (nv y1)) (bits .and .u32 (nv y0) (nv y2))) (bits .and .u32 (nv y1) (nv y2))) % (4294967296 : Int) = nv (S0 y0 + maj y0 y1 y2) := by
  rw [nv_and, nv_and, nv_and, nv_or, nv_or, nv_xor, nv_xor, nv_add, maj_or]; rfl
theorem rowV_new {lo : Nat} (w : World) (vals : Array Value) (l : List (BitVec 32)) (hlo : lo ≤ w.heap.size) (hl : l.length = 8) (h : vals = ucells l) : RowV lo (w.alloc (.cells vals 97)).drew (.slice (some ⟨w.heap.size, 0, none⟩) 8 8) l :=
  ⟨_, 8, rfl, hlo, fun k hk => by show (w.alloc _).cell? _ = _; rw [cell_of (heap_alloc_at w _), h, ucells_get l k (by omega)]⟩
def Hs (w0 w7 w : World) (gh ch gv : Nat) (xs ys : List (BitVec 32)) (j : Nat) : Prop :=
  w.ownsRow w0.heap.size 97 1 (.slice (some ⟨gh, 0, none⟩) 8 ch) 8 (uvs (addTo xs ys j)) ∧ (∀ k, k < 8 → w.cell? ⟨gv, k, none⟩ = some (.int .u32 (nv (ys.getD k 0)))) ∧ Tch (· = gh) w7 w
theorem hs_cell {w0 w7 w : World} {gh ch gv j : Nat} {xs ys : List (BitVec 32)} (h : Hs w0 w7 w gh ch gv xs ys j) (hj : j < 8) : w.cell? ⟨gh, j, none⟩ = some (.int .u32 (nv (xs.getD j 0))) := by
  rw [h.1.cellAt j (by omega), uvs_get _ j (by rw [addTo_length]; exact hj), addTo_at _ _ _ hj]
theorem hs_next {w0 w7 w : World} {gh ch gv j : Nat} {xs ys : List (BitVec 32)} {A : Int} (h : Hs w0 w7 w gh ch gv xs ys j) (hj : j < 8) (hne : ¬ gv = gh) (hA : A = nv (xs.getD j 0 + ys.getD j 0)) (n : Nat) :
    Hs w0 w7 ((w.setCell ⟨gh, j, none⟩ (.int .u32 A)).drewN n) gh ch gv xs ys (j + 1) := by
  subst hA
  refine ⟨?_, fun k hk => ?_, (h.2.2.setCell ⟨gh, j, none⟩ (fun _ => rfl) _).drewN n⟩
  · have := h.1.stored j (.int .u32 (nv (xs.getD j 0 + ys.getD j 0)))
    rw [show (uvs (addTo xs ys j)).set j (.int .u32 (nv (xs.getD j 0 + ys.getD j 0))) = uvs (addTo xs ys (j + 1)) from by rw [← addTo_set xs ys j hj]; simp [uvs, uv, List.map_set]] at this
    exact this.1
  · show (w.setCell _ _).cell? _ = _
    rw [World.cell?_setCell_other (a := ⟨gh, j, none⟩) (b := ⟨gv, k, none⟩) _ _ (by intro e; injection e with e1 e2; exact hne e1.symm)]
    exact h.2.1 k hk
def Blk (wb W w0 : World) (gh ch : Nat) (bs : List UInt8) (i : Nat) (hs : List (BitVec 32)) : Prop :=
  W.ownsRow w0.heap.size 97 1 (.slice (some ⟨gh, 0, none⟩) 8 ch) 8 (uvs hs) ∧ hs.length = 8 ∧ Tch (· = gh) wb W ∧ runs K hs (bs.drop (64 * i)) = runs K H0 bs
theorem blk_next {wb w7 W w0 : World} {gh ch gv i : Nat} {bs blk : List UInt8} {xs ys : List (BitVec 32)} (hl : 64 * i + 64 ≤ bs.length) (hr : runs K xs (bs.drop (64 * i)) = runs K H0 bs) (hb : blk = (bs.drop (64 * i)).take 64)
    (hv : rounds K (sched (words blk) 48) xs 64 = ys) (ht : Tch (· = gh) wb w7) (h : Hs w0 w7 W gh ch gv xs ys 8) : Blk wb W w0 gh ch bs (i + 1) (compress K xs (words blk)) := by
  refine ⟨by have := h.1; rwa [addTo_end K xs (words blk) ys hv] at this, compress_length _ _ _, ht.trans h.2.2, ?_⟩
  rw [← hr, runs_long K xs (bs.drop (64 * i)) (by rw [List.length_drop]; omega), ← hb, List.drop_drop, show 64 * (i + 1) = 64 * i + 64 from by omega]
theorem blk_end {wb W w0 : World} {gh ch i : Nat} {bs : List UInt8} {hs : List (BitVec 32)} (hl : bs.length ≤ 64 * i) (h : Blk wb W w0 gh ch bs i hs) : runs K H0 bs = hs := by
  rw [← h.2.2.2, List.drop_of_length_le hl, runs_short K hs [] (by simp)]
structure Base (w0 w : World) (gh ch gk gb : Nat) (l : List UInt8) : Prop where
  hown : w.ownsRow w0.heap.size 97 1 (.slice (some ⟨gh, 0, none⟩) 8 ch) 8 (uvs H0)
  k : ∀ j, j < 64 → w.cell? ⟨gk, j, none⟩ = some (.int .u32 (nv (K.getD j 0)))
  b : ∀ j, j < l.length → w.cell? ⟨gb, j, none⟩ = some (.int .u8 ((l.getD j 0).toNat : Int))
  tch : Tch (fun _ => False) w0 w
  ne1 : gk ≠ gh
  ne2 : gb ≠ gh
  lo : w0.heap.size ≤ gh
theorem blk_cell {w0 wb W : World} {gh ch gk gb i N j : Nat} {bs blk : List UInt8} (h : Base w0 wb gh ch gk gb bs) (ht : Tch (· = gh) wb W) (hb : blk = (bs.drop (64 * i)).take 64) (hN : bs.length = N) (hi : 64 * i + 64 ≤ N) (hj : j < 64) :
    W.cell? ⟨gb, 64 * i + j, none⟩ = some (.int .u8 ((blk.getD j 0).toNat : Int)) := by
  rw [ht.cell (h.b (64 * i + j) (by omega)) h.ne2, hb]
  congr 3
  simp only [List.getD_eq_getElem?_getD]
  rw [List.getElem?_take, if_pos hj, List.getElem?_drop]
theorem sum_tch {w0 wb W : World} {gh ch gk gb : Nat} {l : List UInt8} (h : Base w0 wb gh ch gk gb l) (ht : Tch (· = gh) wb W) : Tch (fun _ => False) w0 W :=
  ⟨ht.os.trans h.tch.os, ht.tape.trans h.tch.tape, ht.output.trans h.tch.output, Nat.le_trans h.tch.size ht.size, fun k hk _ =>
    (ht.block k (Nat.lt_of_lt_of_le hk h.tch.size) (show ¬ k = gh from by have := h.lo; omega)).trans (h.tch.block k hk id)⟩
theorem base_start {w0 w1 w2 w3 w : World} {gh ch gk ck gb cb B n : Nat} {l : List UInt8} (h1 : gh < w1.heap.size) (h2 : w1.heap.size ≤ gk) (h3 : gk < B) (h0 : w0.heap.size ≤ gh)
    (o1 : w1.ownsRow w0.heap.size 97 1 (.slice (some ⟨gh, 0, none⟩) 8 ch) 8 (uvs H0)) (t1 : Tch (fun _ => False) w0 w1)
    (o2 : w2.ownsRow w1.heap.size 97 1 (.slice (some ⟨gk, 0, none⟩) 64 ck) 64 (uvs K)) (t2 : Tch (fun _ => False) w1 w2) (hB : w2.heap.size = B) (b1 : Below B w2 w3) (b2 : Below B w3 w)
    (hr : RowB w B (.slice (some ⟨gb, 0, none⟩) n cb) n l) : Base w0 w gh ch gk gb l ∧ l.length = n := by
  have t3 : Tch (fun _ => False) w2 w := Tch.of_new (hB ▸ b1.trans b2)
  have hgb : B ≤ gb := by
    obtain ⟨g', cap', cells, fz, hv, hl, hb, _⟩ := hr
    injection hv with e1 e2 e3
    injection e1 with e1
    injection e1 with e1
    omega
  have hln : l.length = n := by
    obtain ⟨g', cap', cells, fz, hv, hl, hb, _⟩ := hr
    exact hl
  refine ⟨⟨own_keep (own_keep o1 t2) t3, fun j hj => ?_, fun j hj => hr.cells j (by omega), (t1.trans t2).trans t3, by omega, by omega, h0⟩, hln⟩
  have ok := own_keep o2 t3
  rw [ok.cellAt j (by omega), uvs_get K j (by show j < 64; exact hj)]
def zs (n : Nat) : Nat := (119 - n % 64) % 64
theorem zs_more (n j : Nat) (h : j < zs n) : (n + 1 + j) % 64 ≠ 56 := by unfold zs at h; omega
theorem zs_end (n : Nat) : (n + 1 + zs n) % 64 = 56 := by unfold zs; omega
def bz (s : List UInt8) (j : Nat) : List UInt8 := s ++ 128 :: List.replicate j 0
theorem bz_next (s : List UInt8) (j : Nat) : bz s (j + 1) = bz s j ++ [0] := by
  unfold bz; rw [List.append_assoc]; congr 1; rw [List.cons_append]; congr 1; exact List.replicate_succ' ..
def bl (s : List UInt8) (j : Nat) : List UInt8 := bz s (zs s.length) ++ (be8 (s.length * 8)).take j
theorem bl_next (s : List UInt8) (j : Nat) (hj : j < 8) : bl s (j + 1) = bl s j ++ [UInt8.ofNat (s.length * 8 / 2 ^ (8 * (7 - j)))] := by
  unfold bl; rw [List.append_assoc]; congr 1
  rw [List.take_add_one]; congr 1
  simp [be8, List.getElem?_range hj]
theorem bl_end (s : List UInt8) : bl s 8 = s ++ padding s.length := by
  unfold bl bz padding zs
  rw [List.take_of_length_le (by simp [be8]), List.append_assoc]
def loops : Code → List Code
  | .loop c => .loop c :: loops c
  | .seq a b => loops a ++ loops b
  | .block _ c => loops c
  | .scope c => loops c
  | .cond _ a b => loops a ++ loops b
  | _ => []
noncomputable def roundsLoop : Code := ((Tryz.f27.body.map loops).getD []).getD 4 .skip
set_option maxRecDepth 1000000 in
set_option maxHeartbeats 4000000 in
theorem rounds_loop (gk ck gw cw wv : Nat) (full : List (BitVec 32)) (x0 x1 x2 x3 x4 x5 x6 x7 : BitVec 32) (w6 : World) (v0 : Value)
    (hlo : wv ≤ w6.heap.size) (hr0 : RowV wv w6 v0 [x0, x1, x2, x3, x4, x5, x6, x7]) (hK : ∀ j, j < 64 → w6.cell? ⟨gk, j, none⟩ = some (.int .u32 (nv (K.getD j 0)))) (hF : ∀ j, j < 64 → w6.cell? ⟨gw, j, none⟩ = some (.int .u32 (nv (full.getD j 0))))
    (u0 u1 u2 u3 u5 u6 u7 u8 u10 u11 u12 u13 u16 u17 u18 u19 u20 u21 u22 u23 u24 u25 u26 u27 u28 u29 u30 u31 u32 u33 u34 u35 u36 u37 u38 u39 u40 u41 u42 u43 u44 u45 u46 u47 u48 u49 u50 u51 u52 u53 u54 u55 u56 u57 u58 u59 u60 u61 u62 u63 u64 u65 u66 u67 u68 u69 u70 u71 u72 u73 u74 u75 u76 u77 u78 u79 u80 u81 u82 u83 u84 u85 u86 u87 u88 u89 u90 u91 u92 u93 u94 u95 u96 u97 u98 u99 u100 u101 u102 u103 u104 u105 u106 u107 u108 u109 u110 u111 u112 u113 u114 u115 u116 u117 u118 u119 u120 u121 u122 u123 u124 u125 u126 u127 u128 u129 u130 u131 u132 u133 u134 u135 u136 u137 u138 u139 u140 u141 u142 u143 u144 u145 u146 u147 u148 u149 u150 u151 u152 u153 u154 u155 u156 u157 u158 u159 u160 u161 u162 u163 u164 u165 u166 u167 u168 u169 u170 u171 u172 u173 u174 u175 u176 u177 u178 u179 u180 u181 u182 u183 u184 u185 u186 u187 u188 u189 u190 u191 u192 u193 u194 u195 u196 u197 u198 u199 u200 u201 u202 u203 u204 u205 u206 u207 u208 u209 u210 u211 u212 u213 u214 u215 u216 u217 u218 u219 u220 u221 u222 u223 u224 u225 u226 u227 u228 u229 u230 u231 u232 u233 u234 u235 u236 u237 u238 u239 u240 u241 u242 u243 u244 u245 u246 u247 u248 u249 u250 u251 u252 u253 u254 u255 u256 u257 u258 u259 u260 u261 u262 u263 u264 u265 u266 u267 u268 u269 u270 u271 u272 u273 u274 u275 u276 u277 u278 u279 u280 u281 u282 u283 u284 u285 u286 u287 u288 u289 u290 u291 u292 : Value) (Q0 : Exit → Act → World → Prop)
    (hexit : ∀ (c16 c17 c18 c19 c145 c146 c147 c148 c149 c150 c151 c152 c153 c154 c155 c156 c157 c158 c159 c160 c161 c162 c163 c164 c165 c166 c167 c168 c169 c170 c171 c172 c173 c174 c175 c176 c177 c178 c179 c180 c181 c182 c183 c184 c185 c186 c187 c188 c189 c190 c191 c192 c193 c194 c195 c196 c197 c198 c199 c200 c201 c202 c203 c204 c205 c206 c207 c208 c209 c210 c211 c212 c213 c214 c215 c216 c217 c218 c219 c220 c221 c222 c223 c224 c225 c226 c227 c228 c229 c230 c231 c232 c233 c234 c235 c236 c237 c238 c239 c240 c241 c242 c243 c244 v1 : Value) (W : World), RowV wv W v1 (rounds K full [x0, x1, x2, x3, x4, x5, x6, x7] 64) → Tch (fun _ => False) w6 W → Q0 (.exit 8) ⟨List.toArray (u0 :: u1 :: u2 :: u3 :: .slice (some ⟨gk, 0, none⟩) 64 ck :: u5 :: u6 :: u7 :: u8 :: .slice (some ⟨gw, 0, none⟩) 64 cw :: u10 :: u11 :: u12 :: u13 :: v1 :: .int .i64 ((64 : Nat) : Int) :: c16 :: c17 :: c18 :: c19 :: u20 :: u21 :: u22 :: u23 :: u24 :: u25 :: u26 :: u27 :: u28 :: u29 :: u30 :: u31 :: u32 :: u33 :: u34 :: u35 :: u36 :: u37 :: u38 :: u39 :: u40 :: u41 :: u42 :: u43 :: u44 :: u45 :: u46 :: u47 :: u48 :: u49 :: u50 :: u51 :: u52 :: u53 :: u54 :: u55 :: u56 :: u57 :: u58 :: u59 :: u60 :: u61 :: u62 :: u63 :: u64 :: u65 :: u66 :: u67 :: u68 :: u69 :: u70 :: u71 :: u72 :: u73 :: u74 :: u75 :: u76 :: u77 :: u78 :: u79 :: u80 :: u81 :: u82 :: u83 :: u84 :: u85 :: u86 :: u87 :: u88 :: u89 :: u90 :: u91 :: u92 :: u93 :: u94 :: u95 :: u96 :: u97 :: u98 :: u99 :: u100 :: u101 :: u102 :: u103 :: u104 :: u105 :: u106 :: u107 :: u108 :: u109 :: u110 :: u111 :: u112 :: u113 :: u114 :: u115 :: u116 :: u117 :: u118 :: u119 :: u120 :: u121 :: u122 :: u123 :: u124 :: u125 :: u126 :: u127 :: u128 :: u129 :: u130 :: u131 :: u132 :: u133 :: u134 :: u135 :: u136 :: u137 :: u138 :: u139 :: u140 :: u141 :: u142 :: u143 :: u144 :: c145 :: c146 :: c147 :: c148 :: c149 :: c150 :: c151 :: c152 :: c153 :: c154 :: c155 :: c156 :: c157 :: c158 :: c159 :: c160 :: c161 :: c162 :: c163 :: c164 :: c165 :: c166 :: c167 :: c168 :: c169 :: c170 :: c171 :: c172 :: c173 :: c174 :: c175 :: c176 :: c177 :: c178 :: c179 :: c180 :: c181 :: c182 :: c183 :: c184 :: c185 :: c186 :: c187 :: c188 :: c189 :: c190 :: c191 :: c192 :: c193 :: c194 :: c195 :: c196 :: c197 :: c198 :: c199 :: c200 :: c201 :: c202 :: c203 :: c204 :: c205 :: c206 :: c207 :: c208 :: c209 :: c210 :: c211 :: c212 :: c213 :: c214 :: c215 :: c216 :: c217 :: c218 :: c219 :: c220 :: c221 :: c222 :: c223 :: c224 :: c225 :: c226 :: c227 :: c228 :: c229 :: c230 :: c231 :: c232 :: c233 :: c234 :: c235 :: c236 :: c237 :: c238 :: c239 :: c240 :: c241 :: c242 :: c243 :: c244 :: u245 :: u246 :: u247 :: u248 :: u249 :: u250 :: u251 :: u252 :: u253 :: u254 :: u255 :: u256 :: u257 :: u258 :: u259 :: u260 :: u261 :: u262 :: u263 :: u264 :: u265 :: u266 :: u267 :: u268 :: u269 :: u270 :: u271 :: u272 :: u273 :: u274 :: u275 :: u276 :: u277 :: u278 :: u279 :: u280 :: u281 :: u282 :: u283 :: u284 :: u285 :: u286 :: u287 :: u288 :: u289 :: u290 :: u291 :: u292 :: []), []⟩ W) :
    Code.wp Tryz.prog roundsLoop Q0 ⟨List.toArray (u0 :: u1 :: u2 :: u3 :: .slice (some ⟨gk, 0, none⟩) 64 ck :: u5 :: u6 :: u7 :: u8 :: .slice (some ⟨gw, 0, none⟩) 64 cw :: u10 :: u11 :: u12 :: u13 :: v0 :: .int .i64 0 :: u16 :: u17 :: u18 :: u19 :: u20 :: u21 :: u22 :: u23 :: u24 :: u25 :: u26 :: u27 :: u28 :: u29 :: u30 :: u31 :: u32 :: u33 :: u34 :: u35 :: u36 :: u37 :: u38 :: u39 :: u40 :: u41 :: u42 :: u43 :: u44 :: u45 :: u46 :: u47 :: u48 :: u49 :: u50 :: u51 :: u52 :: u53 :: u54 :: u55 :: u56 :: u57 :: u58 :: u59 :: u60 :: u61 :: u62 :: u63 :: u64 :: u65 :: u66 :: u67 :: u68 :: u69 :: u70 :: u71 :: u72 :: u73 :: u74 :: u75 :: u76 :: u77 :: u78 :: u79 :: u80 :: u81 :: u82 :: u83 :: u84 :: u85 :: u86 :: u87 :: u88 :: u89 :: u90 :: u91 :: u92 :: u93 :: u94 :: u95 :: u96 :: u97 :: u98 :: u99 :: u100 :: u101 :: u102 :: u103 :: u104 :: u105 :: u106 :: u107 :: u108 :: u109 :: u110 :: u111 :: u112 :: u113 :: u114 :: u115 :: u116 :: u117 :: u118 :: u119 :: u120 :: u121 :: u122 :: u123 :: u124 :: u125 :: u126 :: u127 :: u128 :: u129 :: u130 :: u131 :: u132 :: u133 :: u134 :: u135 :: u136 :: u137 :: u138 :: u139 :: u140 :: u141 :: u142 :: u143 :: u144 :: u145 :: u146 :: u147 :: u148 :: u149 :: u150 :: u151 :: u152 :: u153 :: u154 :: u155 :: u156 :: u157 :: u158 :: u159 :: u160 :: u161 :: u162 :: u163 :: u164 :: u165 :: u166 :: u167 :: u168 :: u169 :: u170 :: u171 :: u172 :: u173 :: u174 :: u175 :: u176 :: u177 :: u178 :: u179 :: u180 :: u181 :: u182 :: u183 :: u184 :: u185 :: u186 :: u187 :: u188 :: u189 :: u190 :: u191 :: u192 :: u193 :: u194 :: u195 :: u196 :: u197 :: u198 :: u199 :: u200 :: u201 :: u202 :: u203 :: u204 :: u205 :: u206 :: u207 :: u208 :: u209 :: u210 :: u211 :: u212 :: u213 :: u214 :: u215 :: u216 :: u217 :: u218 :: u219 :: u220 :: u221 :: u222 :: u223 :: u224 :: u225 :: u226 :: u227 :: u228 :: u229 :: u230 :: u231 :: u232 :: u233 :: u234 :: u235 :: u236 :: u237 :: u238 :: u239 :: u240 :: u241 :: u242 :: u243 :: u244 :: u245 :: u246 :: u247 :: u248 :: u249 :: u250 :: u251 :: u252 :: u253 :: u254 :: u255 :: u256 :: u257 :: u258 :: u259 :: u260 :: u261 :: u262 :: u263 :: u264 :: u265 :: u266 :: u267 :: u268 :: u269 :: u270 :: u271 :: u272 :: u273 :: u274 :: u275 :: u276 :: u277 :: u278 :: u279 :: u280 :: u281 :: u282 :: u283 :: u284 :: u285 :: u286 :: u287 :: u288 :: u289 :: u290 :: u291 :: u292 :: []), []⟩ w6 := by
  unfold roundsLoop
  conv => arg 2; whnf
  have hlo6 := Lib.hid hlo
  replace hr0 := Lib.hid hr0
  have hKc6 := Lib.hid hK
  have hFc6 := Lib.hid hF
  have hexH := Lib.hid hexit
  clear hlo hK hF hexit
  go_loopg [14, 15] 64 (fun g v i' W => ∃ t : Nat, g = 64 - t ∧ t ≤ 64 ∧ i' = .int .i64 t ∧ RowV wv W v (rounds K full [x0, x1, x2, x3, x4, x5, x6, x7] t) ∧ Tch (fun _ => False) w6 W)
  case atStart => exact ⟨0, rfl, by omega, rfl, hr0.out, Tch.refl _ _⟩
  case round =>
    clear hr0
    obtain ⟨t, hg, ht, rfl, hr, htc⟩ := hrel
    subst hg
    obtain ⟨y0, y1, y2, y3, y4, y5, y6, y7, hv⟩ := eight (rounds_length K full [x0, x1, x2, x3, x4, x5, x6, x7] rfl t)
    by_cases htl : t < 64
    · have hnx := Lib.hid (round_next K full [x0, x1, x2, x3, x4, x5, x6, x7] t hv)
      rw [hv] at hr
      obtain ⟨gv, cv, rfl, _, hcv⟩ := hr
      have hc0 := hcv 0 (by omega)
      have hc1 := hcv 1 (by omega)
      have hc2 := hcv 2 (by omega)
      have hc3 := hcv 3 (by omega)
      have hc4 := hcv 4 (by omega)
      have hc5 := hcv 5 (by omega)
      have hc6 := hcv 6 (by omega)
      have hc7 := hcv 7 (by omega)
      simp only [List.getD_cons_zero, List.getD_cons_succ] at hc0 hc1 hc2 hc3 hc4 hc5 hc6 hc7
      have hck := htc.cell (hKc6.out t htl) (fun e => e)
      have hcf := htc.cell (hFc6.out t htl) (fun e => e)
      have hti : (t : Int) < 64 := by omega
      have htcH := Lib.hid htc
      clear hcv hv htc
      generalize full.getD t 0 = wk at *
      generalize K.getD t 0 = kk at *
      go_wp2_with fail
      go_quiet ((go_at_call 54; exact rturn_q _ _ (by unfold Cnt; omega) _ _))
      go_wp2_with fail
      replace hc0 : (wr.drewN nq).cell? ⟨gv, 0, none⟩ = some (.int .u32 (nv y0)) := hc0
      replace hc1 : (wr.drewN nq).cell? ⟨gv, 1, none⟩ = some (.int .u32 (nv y1)) := hc1
      replace hc2 : (wr.drewN nq).cell? ⟨gv, 2, none⟩ = some (.int .u32 (nv y2)) := hc2
      replace hc3 : (wr.drewN nq).cell? ⟨gv, 3, none⟩ = some (.int .u32 (nv y3)) := hc3
      replace hc4 : (wr.drewN nq).cell? ⟨gv, 4, none⟩ = some (.int .u32 (nv y4)) := hc4
      replace hc5 : (wr.drewN nq).cell? ⟨gv, 5, none⟩ = some (.int .u32 (nv y5)) := hc5
      replace hc6 : (wr.drewN nq).cell? ⟨gv, 6, none⟩ = some (.int .u32 (nv y6)) := hc6
      replace hc7 : (wr.drewN nq).cell? ⟨gv, 7, none⟩ = some (.int .u32 (nv y7)) := hc7
      replace htcH := Lib.hid (htcH.out.drewN nq)
      generalize wr.drewN nq = wq at *
      go_quiet ((go_at_call 54; exact rturn_q _ _ (by unfold Cnt; omega) _ _))
      go_wp2_with fail
      replace hc0 : (wq.drewN nq).cell? ⟨gv, 0, none⟩ = some (.int .u32 (nv y0)) := hc0
      replace hc1 : (wq.drewN nq).cell? ⟨gv, 1, none⟩ = some (.int .u32 (nv y1)) := hc1
      replace hc2 : (wq.drewN nq).cell? ⟨gv, 2, none⟩ = some (.int .u32 (nv y2)) := hc2
      replace hc3 : (wq.drewN nq).cell? ⟨gv, 3, none⟩ = some (.int .u32 (nv y3)) := hc3
      replace hc4 : (wq.drewN nq).cell? ⟨gv, 4, none⟩ = some (.int .u32 (nv y4)) := hc4
      replace hc5 : (wq.drewN nq).cell? ⟨gv, 5, none⟩ = some (.int .u32 (nv y5)) := hc5
      replace hc6 : (wq.drewN nq).cell? ⟨gv, 6, none⟩ = some (.int .u32 (nv y6)) := hc6
      replace hc7 : (wq.drewN nq).cell? ⟨gv, 7, none⟩ = some (.int .u32 (nv y7)) := hc7
      replace htcH := Lib.hid (htcH.out.drewN nq)
      generalize wq.drewN nq = wp at *
      rw [rone_val, rtwo_val]
      generalize y7 + S1 y4 + Sha.ch y4 y5 y6 + kk + wk = one at *
      generalize S0 y0 + Sha.maj y0 y1 y2 = two at *
      clear hck hcf
      refine wp_region_still_tail 26 (by kernel_rfl) (by kernel_rfl) ?_
      change wpStill _ _ wp.drew _ _ _
      simp only [List.take_succ_cons, List.take_zero, List.drop_succ_cons, List.drop_zero]
      repeat still_step
      refine wpStill_nil ?_
      change wpList _ _ _ _ _ wp.drew
      go_wp2_with fail
      go_roundg (64 - (t + 1))
      case measure => omega
      case rel =>
        refine ⟨t + 1, rfl, by omega, by go_num, ?_, ?_⟩
        · rw [hnx.out]
          exact rowV_new wp _ _ (Nat.le_trans hlo6.out htcH.out.size) rfl (by rw [nv_add, nv_add]; rfl)
        · exact (htcH.out.alloc _).drew
    · have ht64 : t = 64 := by omega
      subst ht64
      have htcH := Lib.hid htc
      have hrH := Lib.hid hr
      clear hr htc hv
      go_wp2_with fail
      apply hexH.out
      · exact hrH.out
      · exact htcH.out
end Go.Proofs.YtbefkoljcacpcaaGreatDoor.Ref
