/- The walk of the reference's limbs and times. -/
import Derived.Test.YtpecclcihefbaaaDoorRefA
import Derived.Test.YtpecclcihefbaaaDoorBytes
import Derived.Deep.LoopGhost
import Derived.Deep.RegionLaw
import Derived.OwnWalk
import Derived.Deep.OwnRows
import Derived.Lib.Hide
set_option linter.unusedVariables false
set_option linter.unusedSimpArgs false
namespace Go.Proofs.YtpecclcihefbaaaDoor.Ref
open Go.RowKit Go.Proofs.YtpecclcihefbaaaDoor.B

def nc (l : List Nat) : Array Value := (l.map fun x => Value.int .u64 ((x : Nat) : Int)).toArray
theorem nc_get (l : List Nat) (i : Nat) (h : i < l.length) : (nc l)[i]? = some (.int .u64 ((l.getD i 0 : Nat) : Int)) := by
  simp [nc, List.getD_eq_getElem?_getD, List.getElem?_eq_getElem h]
theorem nc_set (l : List Nat) (i : Nat) (x : Nat) : (nc l).setIfInBounds i (.int .u64 ((x : Nat) : Int)) = nc (l.set i x) := by
  simp only [nc, List.setIfInBounds_toArray, List.map_set]

/-- A row of limbs somewhere. -/
def RowU (w : World) (v : Value) (l : List Nat) : Prop := ∃ g cap, v = .slice (some ⟨g, 0, none⟩) l.length cap ∧ ∀ k, k < l.length → w.cell? ⟨g, k, none⟩ = some (.int .u64 ((l.getD k 0 : Nat) : Int))
theorem RowU.tch {w w' : World} {v : Value} {l : List Nat} (h : RowU w v l) (ht : Tch (fun _ => False) w w') : RowU w' v l := by
  obtain ⟨g, cap, hv, hc⟩ := h
  exact ⟨g, cap, hv, fun k hk => ht.cell (hc k hk) (fun e => e)⟩
theorem RowU.of {w : World} {g cap : Nat} {l : List Nat} {t : TypeId} {fz : Nat × Nat} (h : w.heap[g]? = some (.cells (nc l) t fz)) : RowU w (.slice (some ⟨g, 0, none⟩) l.length cap) l :=
  ⟨g, cap, rfl, fun k hk => by rw [cell_of h, nc_get l k hk]⟩

set_option maxRecDepth 100000 in
theorem limbs_any (x : Nat) (hx : x < 18446744073709551616) (w : World) :
    Calls Tryd.prog 88 #[.int .u64 (x : Int)] w fun e w' => e = .returned (.slice (some ⟨w.heap.size, 0, none⟩) 3 3) ∧ w' = w.alloc (.cells (nc [x % 65536, x / 65536 % 65536, x / 4294967296]) 47) := by
  go_enter Tryd.func88, Tryd.ntmps88
  go_wp2_with fail
  go_ret
  have e : nc [x % 65536, x / 65536 % 65536, x / 4294967296] = #[.int .u64 ((x : Int) % 65536), .int .u64 ((x : Int) / 65536 % 65536), .int .u64 ((x : Int) / 4294967296)] := by simp [nc]
  rw [e]
  exact ⟨rfl, rfl⟩

def TimR (w0 w : World) (a b : List Nat) (i j c : Nat) : Prop := ∃ o, w.heap[w0.heap.size]? = some (.cells (nc o) 47 (0, 0)) ∧ Tch (fun _ => False) w0 w ∧ Tim a b i j c o
def TimesPost (w : World) (a b : List Nat) (e : Ending) (w' : World) : Prop := ∃ v l, e = .returned v ∧ RowU w' v l ∧ l.length = a.length + b.length ∧ (∀ k, l.getD k 0 < 65536) ∧ val l = val a * val b ∧ Tch (fun _ => False) w w'

theorem made_nc (n : Nat) : madeCells #[.int .u64 0] n = nc (List.replicate n 0) := by
  unfold nc
  rw [List.map_replicate]
  apply Array.ext
  · simp [madeCells]
  · intro k h1 h2
    simp [madeCells, Nat.mod_one]
theorem timR_step {w0 w : World} {a b o : List Nat} {i j c : Nat} {v q : Int} (ho : w.heap[w0.heap.size]? = some (.cells (nc o) 47 (0, 0))) (ht : Tch (fun _ => False) w0 w) (h : Tim a b i j c o)
    (hi : i < a.length) (hj : j < b.length) (ha : a.getD i 0 < 65536) (hb : b.getD j 0 < 65536)
    (hv : v = (((o.getD (i + j) 0 + a.getD i 0 * b.getD j 0 + c) % 65536 : Nat) : Int)) (hq : q = (((o.getD (i + j) 0 + a.getD i 0 * b.getD j 0 + c) / 65536 : Nat) : Int)) :
    ∃ c' : Nat, q = (c' : Int) ∧ TimR w0 (w.setCell ⟨w0.heap.size, i + j, none⟩ (.int .u64 v)).drew a b i (j + 1) c' := by
  subst hv
  exact ⟨_, hq, _, by show (w.setCell _ _).heap[_]? = _; rw [heap_set_some ho, nc_set], (ht.setNew ⟨w0.heap.size, i + j, none⟩ (Nat.le_refl _) _).drew, h.step hi hj ha hb⟩
theorem timR_row {w0 w : World} {a b o : List Nat} {i c : Nat} {v : Int} (ho : w.heap[w0.heap.size]? = some (.cells (nc o) 47 (0, 0))) (ht : Tch (fun _ => False) w0 w) (h : Tim a b i b.length c o)
    (hi : i < a.length) (hv : v = ((o.getD (i + b.length) 0 + c : Nat) : Int)) :
    TimR w0 (w.setCell ⟨w0.heap.size, i + b.length, none⟩ (.int .u64 v)) a b (i + 1) 0 0 := by
  subst hv
  exact ⟨_, by rw [heap_set_some ho, nc_set], ht.setNew ⟨w0.heap.size, i + b.length, none⟩ (Nat.le_refl _) _, h.row hi⟩
theorem timR_done {w0 w : World} {a b : List Nat} (h : TimR w0 w a b a.length 0 0) : TimesPost w0 a b (.returned (.slice (some ⟨w0.heap.size, 0, none⟩) (a.length + b.length) (a.length + b.length))) w := by
  obtain ⟨o, ho, ht, hT⟩ := h
  refine ⟨_, o, rfl, ?_, hT.len, hT.small, hT.done rfl, ht⟩
  rw [← hT.len]; exact RowU.of ho
theorem info64 : (Tryd.prog.info? 47).map (fun i => (i.zero, i.size, i.bytes)) = some (some (.int .u64 0), 1, 8) := by kernel_rfl

set_option maxRecDepth 100000 in
set_option maxHeartbeats 4000000 in
theorem times_any (a b : List Nat) (hla : a.length ≤ 100) (hlb : b.length ≤ 100) (ha : ∀ k, a.getD k 0 < 65536) (hb : ∀ k, b.getD k 0 < 65536) (va vb : Value) (w : World) (hva : RowU w va a) (hvb : RowU w vb b) :
    Calls Tryd.prog 89 #[va, vb] w fun e w' => TimesPost w a b e w' := by
  have hmk : ∀ W : World, (Instr.makeSlice 128 (.int .i64 ((a.length : Int) + (b.length : Int))) (.int .i64 ((a.length : Int) + (b.length : Int)))).run Tryd.prog W = .ok (.slice (some ⟨W.heap.size, 0, none⟩) (a.length + b.length) (a.length + b.length)) (W.alloc (.cells (madeCells #[.int .u64 0] (a.length + b.length)) 47)) := by
    intro W
    exact Go.run_make_row' (P := Tryd.prog) 128 47 (.int .u64 0) 8 Tryd.underlying128 info64 rfl .i64 .i64 (a.length + b.length) (by omega) (by omega) W
  obtain ⟨ga, ca, rfl, hca⟩ := hva
  obtain ⟨gb, cb, rfl, hcb⟩ := hvb
  have hcaH := Lib.hid hca
  have hcbH := Lib.hid hcb
  have haH := Lib.hid ha
  have hbH := Lib.hid hb
  clear ha hb hca hcb
  go_enter Tryd.func89, Tryd.ntmps89
  go_wp2_with fail
  have hst : TimR w (w.alloc (.cells (madeCells #[.int .u64 0] (a.length + b.length)) 47)) a b 0 0 0 := ⟨_, by rw [heap_alloc_at, made_nc], (Tch.refl _ _).alloc _, Tim.start a b⟩
  replace hst := Lib.hid hst
  clear hmk
  go_loopg [6] a.length (fun g i W => ∃ n : Nat, g = a.length - n ∧ n ≤ a.length ∧ i = .int .i64 n ∧ TimR w W a b n 0 0)
  case atStart => exact ⟨0, rfl, by omega, rfl, hst.out⟩
  case round =>
    clear hst
    obtain ⟨n, hg, hn, rfl, hR⟩ := hrel
    subst hg
    by_cases hnl : n < a.length
    · have hni : (n : Int) < (a.length : Int) := by omega
      replace hR := Lib.hid hR
      go_wp2_with fail
      go_loopg [7, 8] b.length (fun g cc jj W => ∃ m c : Nat, g = b.length - m ∧ m ≤ b.length ∧ cc = .int .u64 c ∧ jj = .int .i64 m ∧ TimR w W a b n m c)
      case atStart => exact ⟨0, 0, rfl, by omega, rfl, rfl, hR.out⟩
      case round =>
        clear hR
        obtain ⟨m, c, hg, hm, rfl, rfl, o, ho, ht, hT⟩ := hrel
        subst hg
        have hlo := hT.len
        by_cases hml : m < b.length
        · have hmi : (m : Int) < (b.length : Int) := by omega
          have hc1 : wr.cell? ⟨w.heap.size, n + m, none⟩ = some (.int .u64 ((o.getD (n + m) 0 : Nat) : Int)) := by rw [cell_of ho, nc_get _ _ (by omega)]
          have hc2 := ht.cell (hcaH.out n hnl) (fun e => e)
          have hc3 := ht.cell (hcbH.out m hml) (fun e => e)
          have hfr := fr_of ho
          have hs1 := hT.small (n + m)
          have hs2 := haH.out n
          have hs3 := hbH.out m
          have hs4 := hT.carry
          have hnx := fun v q hv hq => timR_step (v := v) (q := q) ho ht hT hnl hml hs2 hs3 hv hq
          replace hnx := Lib.hid hnx
          replace ho := Lib.hid ho
          replace ht := Lib.hid ht
          clear hT
          generalize o.getD (n + m) 0 = oo at *
          generalize a.getD n 0 = aa at *
          generalize b.getD m 0 = bb at *
          have hp : aa * bb ≤ 65535 * 65535 := Nat.mul_le_mul (by omega) (by omega)
          have hpi : (aa : Int) * (bb : Int) = ((aa * bb : Nat) : Int) := (Int.natCast_mul aa bb).symm
          generalize aa * bb = pp at *
          have hpp : (pp : Int) ≤ 4294836225 := by omega
          have ho1 : (oo : Int) < 65536 := by omega
          have ho4 : (c : Int) < 65536 := by omega
          go_wp2_with fail
          go_region
          go_wp2_with fail
          obtain ⟨c', hc', hR'⟩ := hnx.out (((oo : Int) + pp + c) % 65536) (((oo : Int) + pp + c) / 65536) (by omega) (by omega)
          rw [hc']
          go_roundg (b.length - (m + 1))
          case measure => omega
          case rel => exact ⟨m + 1, c', rfl, by omega, rfl, by go_num, hR'⟩
        · have hme : m = b.length := by omega
          subst hme
          have hmi : ¬ (b.length : Int) < (b.length : Int) := by omega
          have hc1 : wr.cell? ⟨w.heap.size, n + b.length, none⟩ = some (.int .u64 ((o.getD (n + b.length) 0 : Nat) : Int)) := by rw [cell_of ho, nc_get _ _ (by omega)]
          have hfr := fr_of ho
          have hs1 := hT.small (n + b.length)
          have hs4 := hT.carry
          have hnx := fun v hv => timR_row (v := v) ho ht hT hnl hv
          replace hnx := Lib.hid hnx
          clear ho ht hT
          generalize o.getD (n + b.length) 0 = oo at *
          have ho1 : (oo : Int) < 65536 := by omega
          have ho4 : (c : Int) < 65536 := by omega
          go_wp2_with fail
          go_roundg (a.length - (n + 1))
          case measure => omega
          case rel => exact ⟨n + 1, rfl, by omega, by go_num, hnx.out _ (by omega)⟩
    · have hne : n = a.length := by omega
      subst hne
      have hfin := Lib.hid (timR_done hR)
      clear hR
      go_wp2_with fail
      go_ret
      exact hfin.out

end Go.Proofs.YtpecclcihefbaaaDoor.Ref
