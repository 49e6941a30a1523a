/- What LawPatchCommutes lean on, part h of 29: the texts RefB, ShaK, TmW, Mix. -/
import Derived.Test.YtbiioaggilaebaaGreatDoorTWf
import Derived.Test.YtbiioaggilaebaaGreatDoorTWg
import Derived.Deep.LoopGhost
import Derived.Deep.RegionLaw
import Derived.OwnWalk
import Derived.Deep.OwnRows
import Derived.Lib.Hide
import Derived.Test.YtbiioaggilaebaaGreatDoorProg
import Derived.Lib.SmallJoins
import Derived.Deep.RegionHeld3
import Derived.Deep.RegionWith
import Derived.Deep.DeepFit
import Derived.IntWalk
set_option linter.unusedVariables false
set_option linter.unusedSimpArgs false
namespace Go.Proofs.YtbiioaggilaebaaGreatDoor.Ref
open Go.RowKit Go.Proofs.YtbiioaggilaebaaGreatDoor.B
def nc (l : List Nat) : Array Value := (l.map fun x => Value.int .u64 ((x : Nat) : Int)).toArray
theorem nc_get (l : List Nat) (i : Nat) (h : i < l.length) : (nc l)[i]? = some (.int .u64 ((l.getD i 0 : Nat) : Int)) := by
  simp [nc, List.getD_eq_getElem?_getD, List.getElem?_eq_getElem h]
theorem nc_set (l : List Nat) (i : Nat) (x : Nat) : (nc l).setIfInBounds i (.int .u64 ((x : Nat) : Int)) = nc (l.set i x) := by
  simp only [nc, List.setIfInBounds_toArray, List.map_set]
def RowU (w : World) (v : Value) (l : List Nat) : Prop := ∃ g cap, v = .slice (some ⟨g, 0, none⟩) l.length cap ∧ ∀ k, k < l.length → w.cell? ⟨g, k, none⟩ = some (.int .u64 ((l.getD k 0 : Nat) : Int))
theorem RowU.tch {w w' : World} {v : Value} {l : List Nat} (h : RowU w v l) (ht : Tch (fun _ => False) w w') : RowU w' v l := by
  obtain ⟨g, cap, hv, hc⟩ := h
  exact ⟨g, cap, hv, fun k hk => ht.cell (hc k hk) (fun e => e)⟩
theorem RowU.of {w : World} {g cap : Nat} {l : List Nat} {t : TypeId} {fz : Nat × Nat} (h : w.heap[g]? = some (.cells (nc l) t fz)) : RowU w (.slice (some ⟨g, 0, none⟩) l.length cap) l :=
  ⟨g, cap, rfl, fun k hk => by rw [cell_of h, nc_get l k hk]⟩
set_option maxRecDepth 100000 in
theorem limbs_any (x : Nat) (hx : x < 18446744073709551616) (w : World) :
    Calls Tryz.prog 176 #[.int .u64 (x : Int)] w fun e w' => e = .returned (.slice (some ⟨w.heap.size, 0, none⟩) 3 3) ∧ w' = w.alloc (.cells (nc [x % 65536, x / 65536 % 65536, x / 4294967296]) 137) := by
  go_enter Tryz.func176, Tryz.ntmps176
  go_wp2_with fail
  go_ret
  have e : nc [x % 65536, x / 65536 % 65536, x / 4294967296] = #[.int .u64 ((x : Int) % 65536), .int .u64 ((x : Int) / 65536 % 65536), .int .u64 ((x : Int) / 4294967296)] := by simp [nc]
  rw [e]
  exact ⟨rfl, rfl⟩
def TimR (w0 w : World) (a b : List Nat) (i j c : Nat) : Prop := ∃ o, w.heap[w0.heap.size]? = some (.cells (nc o) 137 (0, 0)) ∧ Tch (fun _ => False) w0 w ∧ Tim a b i j c o
def TimesPost (w : World) (a b : List Nat) (e : Ending) (w' : World) : Prop := ∃ v l, e = .returned v ∧ RowU w' v l ∧ l.length = a.length + b.length ∧ (∀ k, l.getD k 0 < 65536) ∧ val l = val a * val b ∧ Tch (fun _ => False) w w'
theorem made_nc (n : Nat) : madeCells #[.int .u64 0] n = nc (List.replicate n 0) := by
  unfold nc
  rw [List.map_replicate]
  apply Array.ext
  · simp [madeCells]
  · intro k h1 h2
    simp [madeCells, Nat.mod_one]
theorem timR_step {w0 w : World} {a b o : List Nat} {i j c : Nat} {v q : Int} (ho : w.heap[w0.heap.size]? = some (.cells (nc o) 137 (0, 0))) (ht : Tch (fun _ => False) w0 w) (h : Tim a b i j c o)
    (hi : i < a.length) (hj : j < b.length) (ha : a.getD i 0 < 65536) (hb : b.getD j 0 < 65536)
    (hv : v = (((o.getD (i + j) 0 + a.getD i 0 * b.getD j 0 + c) % 65536 : Nat) : Int)) (hq : q = (((o.getD (i + j) 0 + a.getD i 0 * b.getD j 0 + c) / 65536 : Nat) : Int)) :
    ∃ c' : Nat, q = (c' : Int) ∧ TimR w0 (w.setCell ⟨w0.heap.size, i + j, none⟩ (.int .u64 v)).drew a b i (j + 1) c' := by
  subst hv
  exact ⟨_, hq, _, by show (w.setCell _ _).heap[_]? = _; rw [heap_set_some ho, nc_set], (ht.setNew ⟨w0.heap.size, i + j, none⟩ (Nat.le_refl _) _).drew, h.step hi hj ha hb⟩
theorem timR_row {w0 w : World} {a b o : List Nat} {i c : Nat} {v : Int} (ho : w.heap[w0.heap.size]? = some (.cells (nc o) 137 (0, 0))) (ht : Tch (fun _ => False) w0 w) (h : Tim a b i b.length c o)
    (hi : i < a.length) (hv : v = ((o.getD (i + b.length) 0 + c : Nat) : Int)) :
    TimR w0 (w.setCell ⟨w0.heap.size, i + b.length, none⟩ (.int .u64 v)) a b (i + 1) 0 0 := by
  subst hv
  exact ⟨_, by rw [heap_set_some ho, nc_set], ht.setNew ⟨w0.heap.size, i + b.length, none⟩ (Nat.le_refl _) _, h.row hi⟩
theorem timR_done {w0 w : World} {a b : List Nat} (h : TimR w0 w a b a.length 0 0) : TimesPost w0 a b (.returned (.slice (some ⟨w0.heap.size, 0, none⟩) (a.length + b.length) (a.length + b.length))) w := by
  obtain ⟨o, ho, ht, hT⟩ := h
  refine ⟨_, o, rfl, ?_, hT.len, hT.small, hT.done rfl, ht⟩
  rw [← hT.len]; exact RowU.of ho
theorem info64 : (Tryz.prog.info? 137).map (fun i => (i.zero, i.size, i.bytes)) = some (some (.int .u64 0), 1, 8) := by kernel_rfl
set_option maxRecDepth 100000 in
set_option maxHeartbeats 4000000 in
theorem times_any (a b : List Nat) (hla : a.length ≤ 100) (hlb : b.length ≤ 100) (ha : ∀ k, a.getD k 0 < 65536) (hb : ∀ k, b.getD k 0 < 65536) (va vb : Value) (w : World) (hva : RowU w va a) (hvb : RowU w vb b) :
    Calls Tryz.prog 177 #[va, vb] w fun e w' => TimesPost w a b e w' := by
  have hmk : ∀ W : World, (Instr.makeSlice 235 (.int .i64 ((a.length : Int) + (b.length : Int))) (.int .i64 ((a.length : Int) + (b.length : Int)))).run Tryz.prog W = .ok (.slice (some ⟨W.heap.size, 0, none⟩) (a.length + b.length) (a.length + b.length)) (W.alloc (.cells (madeCells #[.int .u64 0] (a.length + b.length)) 137)) := by
    intro W
    exact Go.run_make_row' (P := Tryz.prog) 235 137 (.int .u64 0) 8 Tryz.underlying235 info64 rfl .i64 .i64 (a.length + b.length) (by omega) (by omega) W
  obtain ⟨ga, ca, rfl, hca⟩ := hva
  obtain ⟨gb, cb, rfl, hcb⟩ := hvb
  have hcaH := Lib.hid hca
  have hcbH := Lib.hid hcb
  have haH := Lib.hid ha
  have hbH := Lib.hid hb
  clear ha hb hca hcb
  go_enter Tryz.func177, Tryz.ntmps177
  go_wp2_with fail
  have hst : TimR w (w.alloc (.cells (madeCells #[.int .u64 0] (a.length + b.length)) 137)) a b 0 0 0 := ⟨_, by rw [heap_alloc_at, made_nc], (Tch.refl _ _).alloc _, Tim.start a b⟩
  replace hst := Lib.hid hst
  clear hmk
  go_loopg [6] a.length (fun g i W => ∃ n : Nat, g = a.length - n ∧ n ≤ a.length ∧ i = .int .i64 n ∧ TimR w W a b n 0 0)
  case atStart => exact ⟨0, rfl, by omega, rfl, hst.out⟩
  case round =>
    clear hst
    obtain ⟨n, hg, hn, rfl, hR⟩ := hrel
    subst hg
    by_cases hnl : n < a.length
    · have hni : (n : Int) < (a.length : Int) := by omega
      replace hR := Lib.hid hR
      go_wp2_with fail
      go_loopg [7, 8] b.length (fun g cc jj W => ∃ m c : Nat, g = b.length - m ∧ m ≤ b.length ∧ cc = .int .u64 c ∧ jj = .int .i64 m ∧ TimR w W a b n m c)
      case atStart => exact ⟨0, 0, rfl, by omega, rfl, rfl, hR.out⟩
      case round =>
        clear hR
        obtain ⟨m, c, hg, hm, rfl, rfl, o, ho, ht, hT⟩ := hrel
        subst hg
        have hlo := hT.len
        by_cases hml : m < b.length
        · have hmi : (m : Int) < (b.length : Int) := by omega
          have hc1 : wr.cell? ⟨w.heap.size, n + m, none⟩ = some (.int .u64 ((o.getD (n + m) 0 : Nat) : Int)) := by rw [cell_of ho, nc_get _ _ (by omega)]
          have hc2 := ht.cell (hcaH.out n hnl) (fun e => e)
          have hc3 := ht.cell (hcbH.out m hml) (fun e => e)
          have hfr := fr_of ho
          have hs1 := hT.small (n + m)
          have hs2 := haH.out n
          have hs3 := hbH.out m
          have hs4 := hT.carry
          have hnx := fun v q hv hq => timR_step (v := v) (q := q) ho ht hT hnl hml hs2 hs3 hv hq
          replace hnx := Lib.hid hnx
          replace ho := Lib.hid ho
          replace ht := Lib.hid ht
          clear hT
          generalize o.getD (n + m) 0 = oo at *
          generalize a.getD n 0 = aa at *
          generalize b.getD m 0 = bb at *
          have hp : aa * bb ≤ 65535 * 65535 := Nat.mul_le_mul (by omega) (by omega)
          have hpi : (aa : Int) * (bb : Int) = ((aa * bb : Nat) : Int) := (Int.natCast_mul aa bb).symm
          generalize aa * bb = pp at *
          have hpp : (pp : Int) ≤ 4294836225 := by omega
          have ho1 : (oo : Int) < 65536 := by omega
          have ho4 : (c : Int) < 65536 := by omega
          go_wp2_with fail
          go_region
          go_wp2_with fail
          obtain ⟨c', hc', hR'⟩ := hnx.out (((oo : Int) + pp + c) % 65536) (((oo : Int) + pp + c) / 65536) (by omega) (by omega)
          rw [hc']
          go_roundg (b.length - (m + 1))
          case measure => omega
          case rel => exact ⟨m + 1, c', rfl, by omega, rfl, by go_num, hR'⟩
        · have hme : m = b.length := by omega
          subst hme
          have hmi : ¬ (b.length : Int) < (b.length : Int) := by omega
          have hc1 : wr.cell? ⟨w.heap.size, n + b.length, none⟩ = some (.int .u64 ((o.getD (n + b.length) 0 : Nat) : Int)) := by rw [cell_of ho, nc_get _ _ (by omega)]
          have hfr := fr_of ho
          have hs1 := hT.small (n + b.length)
          have hs4 := hT.carry
          have hnx := fun v hv => timR_row (v := v) ho ht hT hnl hv
          replace hnx := Lib.hid hnx
          clear ho ht hT
          generalize o.getD (n + b.length) 0 = oo at *
          have ho1 : (oo : Int) < 65536 := by omega
          have ho4 : (c : Int) < 65536 := by omega
          go_wp2_with fail
          go_roundg (a.length - (n + 1))
          case measure => omega
          case rel => exact ⟨n + 1, rfl, by omega, by go_num, hnx.out _ (by omega)⟩
    · have hne : n = a.length := by omega
      subst hne
      have hfin := Lib.hid (timR_done hR)
      clear hR
      go_wp2_with fail
      go_ret
      exact hfin.out
end Go.Proofs.YtbiioaggilaebaaGreatDoor.Ref
set_option linter.unusedVariables false
set_option linter.unusedSimpArgs false
namespace Go.Proofs.YtbiioaggilaebaaGreatDoor.Sha
open Go.RowKit Go.Proofs.YtbiioaggilaebaaGreatDoor.B
def K : List W := [1116352408#32, 1899447441#32, 3049323471#32, 3921009573#32, 961987163#32, 1508970993#32, 2453635748#32, 2870763221#32, 3624381080#32, 310598401#32, 607225278#32, 1426881987#32, 1925078388#32, 2162078206#32, 2614888103#32, 3248222580#32, 3835390401#32, 4022224774#32, 264347078#32, 604807628#32, 770255983#32, 1249150122#32, 1555081692#32, 1996064986#32, 2554220882#32, 2821834349#32, 2952996808#32, 3210313671#32, 3336571891#32, 3584528711#32, 113926993#32, 338241895#32, 666307205#32, 773529912#32, 1294757372#32, 1396182291#32, 1695183700#32, 1986661051#32, 2177026350#32, 2456956037#32, 2730485921#32, 2820302411#32, 3259730800#32, 3345764771#32, 3516065817#32, 3600352804#32, 4094571909#32, 275423344#32, 430227734#32, 506948616#32, 659060556#32, 883997877#32, 958139571#32, 1322822218#32, 1537002063#32, 1747873779#32, 1955562222#32, 2024104815#32, 2227730452#32, 2361852424#32, 2428436474#32, 2756734187#32, 3204031479#32, 3329325298#32]
def H0 : List W := [1779033703#32, 3144134277#32, 1013904242#32, 2773480762#32, 1359893119#32, 2600822924#32, 528734635#32, 1541459225#32]
theorem kidx (W : World) : ∀ t, t < 64 → (Instr.index 204 (.agg #[Value.int .u32 1116352408, Value.int .u32 1899447441, Value.int .u32 3049323471, Value.int .u32 3921009573, Value.int .u32 961987163, Value.int .u32 1508970993, Value.int .u32 2453635748, Value.int .u32 2870763221, Value.int .u32 3624381080, Value.int .u32 310598401, Value.int .u32 607225278, Value.int .u32 1426881987, Value.int .u32 1925078388, Value.int .u32 2162078206, Value.int .u32 2614888103, Value.int .u32 3248222580, Value.int .u32 3835390401, Value.int .u32 4022224774, Value.int .u32 264347078, Value.int .u32 604807628, Value.int .u32 770255983, Value.int .u32 1249150122, Value.int .u32 1555081692, Value.int .u32 1996064986, Value.int .u32 2554220882, Value.int .u32 2821834349, Value.int .u32 2952996808, Value.int .u32 3210313671, Value.int .u32 3336571891, Value.int .u32 3584528711, Value.int .u32 113926993, Value.int .u32 338241895, Value.int .u32 666307205, Value.int .u32 773529912, Value.int .u32 1294757372, Value.int .u32 1396182291, Value.int .u32 1695183700, Value.int .u32 1986661051, Value.int .u32 2177026350, Value.int .u32 2456956037, Value.int .u32 2730485921, Value.int .u32 2820302411, Value.int .u32 3259730800, Value.int .u32 3345764771, Value.int .u32 3516065817, Value.int .u32 3600352804, Value.int .u32 4094571909, Value.int .u32 275423344, Value.int .u32 430227734, Value.int .u32 506948616, Value.int .u32 659060556, Value.int .u32 883997877, Value.int .u32 958139571, Value.int .u32 1322822218, Value.int .u32 1537002063, Value.int .u32 1747873779, Value.int .u32 1955562222, Value.int .u32 2024104815, Value.int .u32 2227730452, Value.int .u32 2361852424, Value.int .u32 2428436474, Value.int .u32 2756734187, Value.int .u32 3204031479, Value.int .u32 3329325298]) (.int .i64 (t : Nat))).run Tryz.prog W = .ok (.int .u32 (nv (K.getD t 0))) W
  | 0, _ => by kernel_rfl
  | 1, _ => by kernel_rfl
  | 2, _ => by kernel_rfl
  | 3, _ => by kernel_rfl
  | 4, _ => by kernel_rfl
  | 5, _ => by kernel_rfl
  | 6, _ => by kernel_rfl
  | 7, _ => by kernel_rfl
  | 8, _ => by kernel_rfl
  | 9, _ => by kernel_rfl
  | 10, _ => by kernel_rfl
  | 11, _ => by kernel_rfl
  | 12, _ => by kernel_rfl
  | 13, _ => by kernel_rfl
  | 14, _ => by kernel_rfl
  | 15, _ => by kernel_rfl
  | 16, _ => by kernel_rfl
  | 17, _ => by kernel_rfl
  | 18, _ => by kernel_rfl
  | 19, _ => by kernel_rfl
  | 20, _ => by kernel_rfl
  | 21, _ => by kernel_rfl
  | 22, _ => by kernel_rfl
  | 23, _ => by kernel_rfl
  | 24, _ => by kernel_rfl
  | 25, _ => by kernel_rfl
  | 26, _ => by kernel_rfl
  | 27, _ => by kernel_rfl
  | 28, _ => by kernel_rfl
  | 29, _ => by kernel_rfl
  | 30, _ => by kernel_rfl
  | 31, _ => by kernel_rfl
  | 32, _ => by kernel_rfl
  | 33, _ => by kernel_rfl
  | 34, _ => by kernel_rfl
  | 35, _ => by kernel_rfl
  | 36, _ => by kernel_rfl
  | 37, _ => by kernel_rfl
  | 38, _ => by kernel_rfl
  | 39, _ => by kernel_rfl
  | 40, _ => by kernel_rfl
  | 41, _ => by kernel_rfl
  | 42, _ => by kernel_rfl
  | 43, _ => by kernel_rfl
  | 44, _ => by kernel_rfl
  | 45, _ => by kernel_rfl
  | 46, _ => by kernel_rfl
  | 47, _ => by kernel_rfl
  | 48, _ => by kernel_rfl
  | 49, _ => by kernel_rfl
  | 50, _ => by kernel_rfl
  | 51, _ => by kernel_rfl
  | 52, _ => by kernel_rfl
  | 53, _ => by kernel_rfl
  | 54, _ => by kernel_rfl
  | 55, _ => by kernel_rfl
  | 56, _ => by kernel_rfl
  | 57, _ => by kernel_rfl
  | 58, _ => by kernel_rfl
  | 59, _ => by kernel_rfl
  | 60, _ => by kernel_rfl
  | 61, _ => by kernel_rfl
  | 62, _ => by kernel_rfl
  | 63, _ => by kernel_rfl
  | n + 64, h => absurd h (by omega)
set_option maxRecDepth 100000 in
set_option maxHeartbeats 8000000 in
theorem k_any (t : Nat) (ht : t < 64) (w : World) :
    Calls Tryz.prog 142 #[.int .i64 t] w fun e w' => e = .returned (.int .u32 (nv (K.getD t 0))) ∧ w = w' := by
  have hk := fun W => kidx W t ht
  generalize nv (K.getD t 0) = y at *
  go_enter Tryz.func142, Tryz.ntmps142
  go_wp2_with fail
  go_ret
  exact ⟨rfl, rfl⟩
end Go.Proofs.YtbiioaggilaebaaGreatDoor.Sha
set_option linter.unusedVariables false
set_option linter.unusedSimpArgs false
namespace Go.Proofs.YtbiioaggilaebaaGreatDoor.Tm
open Go Go.RowKit Go.Proofs.YtbiioaggilaebaaGreatDoor.B Go.Proofs.YtbiioaggilaebaaGreatDoor.Bld
def Tab (w : World) : Prop := Lib.TabIs Tryz.prog w "internal/strconv.uint64pow10" .u64 Lib.pow10Tab
theorem gtab : Tryz.prog.globalNamed "internal/strconv.uint64pow10" = some 2 := by kernel_rfl
theorem Tab.below {w w' : World} {B : Nat} (h : Tab w) (hb : Below B w w') (hB : w.heap.size ≤ B) : Tab w' := Joins.tab_stays gtab h hb hB
theorem Tab.keep {w w' : World} {B : Nat} (h : Tab w) (hb : Below B w w') (hB : 2 < B) : Tab w' := by
  unfold Tab Lib.TabIs World.var? at *
  rw [gtab] at h ⊢
  simp only [Option.bind_some] at h ⊢
  rw [hb.block _ hB]
  exact h
theorem grow_below (w : World) (k : Nat) (os : Array Obj) : Below w.heap.size w (Sort.grow (w.drewN k) os) := by
  refine ⟨rfl, rfl, rfl, ?_, fun j hj => ?_⟩
  · show w.heap.size ≤ (w.heap ++ os).size
    simp
  · show (w.heap ++ os)[j]? = _
    rw [Array.getElem?_append_left hj]
theorem itoa_any (n : Nat) (hn : n ≤ 9223372036854775807) (w : World) (h : Tab w) :
    Calls Tryz.prog 77 #[.int .i64 n] w fun e w' => e = .returned (.string ⟨(Lib.decDigits n).toArray⟩) ∧ Below w.heap.size w w' := by
  refine (Tryz.strconv_Itoa n (by omega) (by omega) w h).mono ?_
  rintro e w' ⟨rfl, k, os, rfl⟩
  exact ⟨by rw [Lib.itoa_nonneg], grow_below w k os⟩
mutual
def FV (B : Nat) (w : World) : F → List Value → Prop
  | .mk b t l, cs => ∃ A c, cs = [.bool b, .string ⟨t.toArray⟩, .slice A l.length c] ∧ l.length ≤ c ∧ l.length ≤ 140737488355328 ∧ FVs B w A 0 l
def FVs (B : Nat) (w : World) (A : Option Addr) : Nat → List F → Prop
  | _, [] => True
  | i, f :: l => (∃ b o c0 c1 c2, A = some ⟨b, o, none⟩ ∧ b < B ∧ w.cell? ⟨b, o + i * 3, none⟩ = some c0 ∧ w.cell? ⟨b, o + i * 3 + 1, none⟩ = some c1 ∧ w.cell? ⟨b, o + i * 3 + 2, none⟩ = some c2 ∧ FV B w f [c0, c1, c2]) ∧ FVs B w A (i + 1) l
end
mutual
theorem FV.below {B : Nat} {w w' : World} (hb : Below B w w') : ∀ (f : F) (cs : List Value), FV B w f cs → FV B w' f cs
  | .mk b t l, cs, h => by
    unfold FV at h ⊢
    obtain ⟨A, c, h1, h2, h3, h4⟩ := h
    exact ⟨A, c, h1, h2, h3, FVs.below hb l A 0 h4⟩
theorem FVs.below {B : Nat} {w w' : World} (hb : Below B w w') : ∀ (l : List F) (A : Option Addr) (i : Nat), FVs B w A i l → FVs B w' A i l
  | [], _, _, _ => by unfold FVs; trivial
  | f :: l, A, i, h => by
    unfold FVs at h ⊢
    obtain ⟨⟨b, o, c0, c1, c2, h1, h2, h3, h4, h5, h6⟩, h7⟩ := h
    exact ⟨⟨b, o, c0, c1, c2, h1, h2, (hb.cell (p := ⟨b, _, none⟩) h2).trans h3, (hb.cell (p := ⟨b, _, none⟩) h2).trans h4, (hb.cell (p := ⟨b, _, none⟩) h2).trans h5, FV.below hb f _ h6⟩, FVs.below hb l A (i + 1) h7⟩
end
theorem FVs.get {B : Nat} {w : World} {A : Option Addr} : ∀ {l : List F} {i : Nat}, FVs B w A i l → ∀ (j : Nat) (hj : j < l.length),
    ∃ b o c0 c1 c2, A = some ⟨b, o, none⟩ ∧ b < B ∧ w.cell? ⟨b, o + (i + j) * 3, none⟩ = some c0 ∧ w.cell? ⟨b, o + (i + j) * 3 + 1, none⟩ = some c1 ∧ w.cell? ⟨b, o + (i + j) * 3 + 2, none⟩ = some c2 ∧ FV B w l[j] [c0, c1, c2]
  | [], _, _, j, hj => absurd hj (by simp)
  | f :: l, i, h, j, hj => by
    unfold FVs at h
    cases j with
    | zero => exact h.1
    | succ j =>
      have := FVs.get h.2 j (by simpa using hj)
      rwa [show i + 1 + j = i + (j + 1) from by omega] at this
theorem wat_alloc {B g : Nat} {l : List UInt8} {e d : Value} {w : World} (h : WAt B g l e d w) (o : Obj) : WAt B g l e d (w.alloc o) := by
  obtain ⟨h1, p, v, h2, h3, h4⟩ := h
  exact ⟨h1, p, v, h2, by rw [heap_alloc_lt _ _ _ (heap_lt h3)]; exact h3, h4.alloc _⟩
theorem wat_drew {B g : Nat} {l : List UInt8} {e d : Value} {w : World} (h : WAt B g l e d w) : WAt B g l e d w.drew := h
theorem wat_tch {B g : Nat} {l : List UInt8} {e d : Value} {w w' : World} (h : WAt B g l e d w) (k : Below w.heap.size w w') : WAt B g l e d w' := by
  obtain ⟨h1, p, v, h2, h3, h4⟩ := h
  exact ⟨h1, p, v, h2, (Tch.of_new (S := fun _ => False) k).heap h3 (fun e => e), own_keep h4 (Tch.of_new k)⟩
theorem box_keep {w2 w3 : World} {g k : Nat} {cs : Array Value} {ty : TypeId} {fz : Nat × Nat} (h2 : w2.heap[k]? = some (.cells cs ty fz)) (ho : Oth g w2 w3) (hne : k ≠ g) (hty : ty ≠ 5) (i : Nat) : w3.cell? ⟨k, i, none⟩ = cs[i]? := cell_of (ho k cs ty fz hne hty h2) i
set_option maxRecDepth 100000 in
set_option maxHeartbeats 2000000 in
theorem put_text (B g : Nat) (t : List UInt8) (e d : Value) (s : ByteArray) (deep : Nat) (A : Option Addr) (c : Nat) (w : World) (h : WAt B g t e d w) (htab : Tab w) (hdeep : deep ≤ 8)
    (hlen : t.length + (txt s.data.toList).bytes.length ≤ 65536) (hBw : B ≤ w.heap.size) :
    Calls Tryz.prog 78 #[.pointer (some ⟨g, 0, none⟩), .agg #[.bool false, .string s, .slice A 0 c], .int .i64 deep] w
      fun ev w' => ev = .returned (.tuple #[]) ∧ WAt B g (t ++ (txt s.data.toList).bytes) e d w' ∧ Below B w w' ∧ Oth g w w' := by
  have hsl : s.data.toList.length = s.size := by rw [Array.length_toList]; rfl
  have hbl : (txt s.data.toList).bytes.length = (Lib.decDigits s.size).length + 1 + s.size := by
    unfold txt F.bytes
    simp [hsl]; omega
  have hbe : (txt s.data.toList).bytes = (⟨(Lib.decDigits s.size).toArray⟩ ++ ⟨#[58]⟩ ++ s : ByteArray).data.toList := by
    unfold txt F.bytes
    rw [hsl]
    simp [ByteArray.data_append]
  have hdi : ¬ (8 : Int) < (deep : Int) := by omega
  have hti : decide ((65536 : Int) < (t.length : Int)) = false := by simp; omega
  have hNs : (⟨(Lib.decDigits s.size).toArray⟩ : ByteArray).size = (Lib.decDigits s.size).length := by show (Lib.decDigits s.size).toArray.size = _; simp
  obtain ⟨w0, hw0⟩ : ∃ w0, w0 = w.alloc (.cells #[.bool false, .string s, .slice A 0 c] 74) := ⟨_, rfl⟩
  have hbel : Below B w w0 := by rw [hw0]; exact (Below.refl _ _).alloc hBw _
  have hsz : w.heap.size < w0.heap.size := by rw [hw0]; simp
  have hb0 : w0.heap[w.heap.size]? = some (.cells #[.bool false, .string s, .slice A 0 c] 74 (0, 0)) := by rw [hw0]; exact heap_alloc_at _ _
  have CL := Lib.hid (len_any B g t e d w0 (by rw [hw0]; exact wat_alloc h _))
  have CI := Lib.hid (itoa_any s.size (by omega) w0.drew (by show Tab w0; rw [hw0]; exact htab.below ((Below.refl _ _).alloc (Nat.le_refl _) _) (Nat.le_refl _)))
  have hwa : WAt B g t e d w0 := by rw [hw0]; exact wat_alloc h _
  rw [hbl] at hlen
  have CS := Lib.hid (fun (N : ByteArray) W (hN : N.size ≤ 65536) (hW : Below w0.drew.heap.size w0.drew W) => string_any B g t e d (N ++ ⟨#[58]⟩ ++ s) W (wat_tch (wat_drew hwa) hW) (by rw [ByteArray.size_append, ByteArray.size_append]; show t.length + (N.size + 1 + s.size) ≤ _; omega) (by have := hW.size; have : w0.drew.heap.size = w0.heap.size := rfl; omega))
  rw [hbe]
  generalize (⟨(Lib.decDigits s.size).toArray⟩ : ByteArray) = N at *
  have hcat1 : (9223372036854775807 < N.size + 1) = False := eq_false (by omega)
  have hcat2 : (9223372036854775807 < N.size + 1 + s.size) = False := eq_false (by omega)
  have hNb := Lib.hid (show N.size ≤ 65536 by omega)
  have hbelH := Lib.hid hbel
  have hothH := Lib.hid (show Oth g w w0 by rw [hw0]; exact Oth.alloc _ _ _)
  have hneH := Lib.hid (show w.heap.size ≠ g by obtain ⟨_, p, v, _, hg, _⟩ := h; have := heap_lt hg; omega)
  have hb0H := Lib.hid hb0
  have hszH := Lib.hid hsz
  have hBwH := Lib.hid hBw
  have hc0 : w0.cell? ⟨w.heap.size, 0, none⟩ = some (.bool false) := by rw [cell_of hb0]; rfl
  have hc1 : w0.cell? ⟨w.heap.size, 1, none⟩ = some (.string s) := by rw [cell_of hb0]; rfl
  have hc2 : w0.cell? ⟨w.heap.size, 2, none⟩ = some (.slice A 0 c) := by rw [cell_of hb0]; rfl
  clear hbe hbl hNs hsl hlen hwa hb0 hbel hsz hBw h htab
  go_enter Tryz.func78, Tryz.ntmps78
  go_wp2_with fail
  rw [← hw0]
  replace hw0 := Lib.hid hw0
  refine (CL.out).mono ?_
  rintro ev w1 ⟨rfl, rfl⟩
  go_wp2_with fail
  go_region_held3 (fun W => W.cell? ⟨w.heap.size, 1, none⟩ = some (.string s)) (first | go_keep | (exact (cell_of hbx.out 1).trans rfl) | (exact (box_keep hbx.out hoth3.out hneH.out (by decide) 1).trans rfl))
    ((first
      | (go_at_call 77; refine (CI.out).mono ?_; rintro ev w2 ⟨rfl, hb1⟩; have hb1H := Lib.hid hb1; have hbx := Lib.hid ((hb1.block _ hszH.out).trans hb0H.out))
      | (go_at_call 122; refine (CS.out N _ hNb.out (by exact hb1)).mono ?_; rintro ev w3 ⟨rfl, hwat, hb3, hoth3⟩; replace hoth3 := Lib.hid hoth3; replace hwat := Lib.hid hwat; replace hb3 := Lib.hid hb3)))
  all_goals (try go_wp2_with fail)
  go_end0
  refine ⟨rfl, hwat.out, (hbelH.out.trans ?_).trans hb3.out, (hothH.out.trans ?_).trans hoth3.out⟩
  · have h := hb1H.out
    exact (Below.drew (Below.refl B w1)).trans (Below.mono (B' := B) (w := w1.drew) h (Nat.le_of_lt (Nat.lt_of_le_of_lt hBwH.out hszH.out)))
  · exact Oth.below (w := w1.drew) hb1H.out
theorem bytess_append : ∀ (a b : List F), bytess (a ++ b) = bytess a ++ bytess b
  | [], b => rfl
  | f :: a, b => by rw [List.cons_append, bytess, bytess, bytess_append a b, List.append_assoc]
theorem bytess_take (l : List F) (k : Nat) (h : k < l.length) : bytess (l.take (k + 1)) = bytess (l.take k) ++ (l[k]).bytes := by
  rw [List.take_add_one, List.getElem?_eq_getElem h, Option.toList_some, bytess_append, bytess, bytess, List.append_nil]
theorem bytess_le (l : List F) (k : Nat) : (bytess (l.take k)).length ≤ (bytess l).length := by
  have := bytess_append (l.take k) (l.drop k)
  rw [List.take_append_drop] at this
  rw [this, List.length_append]
  omega
theorem rights_get : ∀ {l : List F}, rights l = true → ∀ (k : Nat) (h : k < l.length), (l[k]).right = true
  | [], _, k, h => absurd h (by simp)
  | f :: l, hr, k, h => by
    unfold rights at hr
    simp only [Bool.and_eq_true] at hr
    cases k with
    | zero => exact hr.1
    | succ k => exact rights_get hr.2 k (by simpa using h)
theorem depths_get : ∀ {l : List F} (k : Nat) (h : k < l.length), (l[k]).depth ≤ depths l
  | [], k, h => absurd h (by simp)
  | f :: l, k, h => by
    unfold depths
    cases k with
    | zero => exact Nat.le_max_left _ _
    | succ k => exact Nat.le_trans (depths_get k (by simpa using h)) (Nat.le_max_right _ _)
def PutPost (B g : Nat) (t : List UInt8) (e d : Value) (w : World) (ev : Ending) (w' : World) : Prop := ev = .returned (.tuple #[]) ∧ WAt B g t e d w' ∧ Below B w w' ∧ Oth g w w'
def Puts (B g : Nat) (e d : Value) (f : F) : Prop := ∀ (t : List UInt8) (deep : Nat) (c0 c1 c2 : Value) (w : World), FV B w f [c0, c1, c2] → WAt B g t e d w → Tab w → B ≤ w.heap.size → 2 < B → f.depth + deep ≤ 8 → t.length + f.bytes.length ≤ 65536 →
  Calls Tryz.prog 78 #[.pointer (some ⟨g, 0, none⟩), .agg #[c0, c1, c2], .int .i64 deep] w (PutPost B g (t ++ f.bytes) e d w)
set_option maxRecDepth 100000 in
set_option maxHeartbeats 4000000 in
theorem put_list (B g : Nat) (e d : Value) (l : List F) (ih : ∀ (k : Nat) (h : k < l.length), Puts B g e d l[k]) (t : List UInt8) (deep : Nat) (A : Option Addr) (c : Nat) (w : World) (hl : l.length ≤ 140737488355328) (hfs : FVs B w A 0 l) (h : WAt B g t e d w) (htab : Tab w)
    (hBw : B ≤ w.heap.size) (hgB : 2 < B) (hdeep : depths l + 1 + deep ≤ 8) (hlen : t.length + ((bytess l).length + 2) ≤ 65536) :
    Calls Tryz.prog 78 #[.pointer (some ⟨g, 0, none⟩), .agg #[.bool true, .string ⟨#[]⟩, .slice A l.length c], .int .i64 deep] w (PutPost B g (t ++ 40 :: (bytess l ++ [41])) e d w) := by
  have hdi : ¬ (8 : Int) < (deep : Int) := by omega
  have hdi1 : ¬ (8 : Int) < (deep : Int) + 1 := by omega
  have hd8 : (deep : Int) ≤ 8 := by omega
  have hti : decide ((65536 : Int) < (t.length : Int)) = false := by simp; omega
  obtain ⟨w0, hw0⟩ : ∃ w0, w0 = w.alloc (.cells #[.bool true, .string ⟨#[]⟩, .slice A l.length c] 74) := ⟨_, rfl⟩
  have hbel := Lib.hid (show Below B w w0 by rw [hw0]; exact (Below.refl _ _).alloc hBw _)
  have hoth := Lib.hid (show Oth g w w0 by rw [hw0]; exact Oth.alloc _ _ _)
  have hwa : WAt B g t e d w0 := by rw [hw0]; exact wat_alloc h _
  have hsz : B ≤ w0.heap.size := by rw [hw0]; simp; omega
  have CL := Lib.hid (len_any B g t e d w0 hwa)
  have C40 : Calls Tryz.prog 123 #[.pointer (some ⟨g, 0, none⟩), .int .u8 40] w0 fun ev w' => ev = .returned .nilIface ∧ WAt B g (t ++ [40]) e d w' ∧ Below B w0 w' ∧ Oth g w0 w' := byte_any B g t e d 40 w0 hwa (by omega) hsz
  have C40H := Lib.hid C40
  have hb0 : w0.heap[w.heap.size]? = some (.cells #[.bool true, .string ⟨#[]⟩, .slice A l.length c] 74 (0, 0)) := by rw [hw0]; exact heap_alloc_at _ _
  have hb0H := Lib.hid hb0
  have hneH := Lib.hid (show w.heap.size ≠ g by obtain ⟨_, p, v, _, hg, _⟩ := h; have := heap_lt hg; omega)
  have htabH := Lib.hid htab
  have hfsH := Lib.hid hfs
  have hc0 : w0.cell? ⟨w.heap.size, 0, none⟩ = some (.bool true) := by rw [cell_of hb0]; rfl
  have hc1 : w0.cell? ⟨w.heap.size, 1, none⟩ = some (.string ⟨#[]⟩) := by rw [cell_of hb0]; rfl
  have hc2 : w0.cell? ⟨w.heap.size, 2, none⟩ = some (.slice A l.length c) := by rw [cell_of hb0]; rfl
  clear hwa hb0 h htab hfs C40
  go_enter Tryz.func78, Tryz.ntmps78
  go_wp2_with fail
  rw [← hw0]
  replace hw0 := Lib.hid hw0
  refine (CL.out).mono ?_
  rintro ev w1 ⟨rfl, rfl⟩
  go_wp2_with fail
  refine (C40H.out).mono ?_
  rintro ev w2 ⟨rfl, hw2, hb2, ho2⟩
  have hbx := Lib.hid (ho2 _ _ _ _ hneH.out (by decide) hb0H.out)
  have hx2 : w2.cell? ⟨w.heap.size, 2, none⟩ = some (.slice A l.length c) := by rw [cell_of hbx.out]; rfl
  replace hbel := Lib.hid (hbel.out.trans hb2)
  replace hoth := Lib.hid (hoth.out.trans ho2)
  replace hw2 := Lib.hid hw2
  clear hb2 ho2 CL C40H
  go_wp2_with fail
  obtain ⟨n, hn⟩ : ∃ n, n = l.length := ⟨_, rfl⟩
  rw [← hn] at hl hx2 ⊢
  replace hn := Lib.hid hn
  go_loopg [80] n (fun g' i W => ∃ k : Nat, g' = n - k ∧ k ≤ n ∧ i = .int .i64 k ∧ WAt B g (t ++ [40] ++ bytess (l.take k)) e d W ∧ Below B w W ∧ Oth g w W)
  case atStart => exact ⟨0, rfl, by omega, rfl, by simpa [bytess] using hw2.out, hbel.out, hoth.out⟩
  case round =>
    clear hw2 hbel hoth hx2 hbx
    obtain ⟨k, hg', hk, rfl, hwk, hbk, hok⟩ := hrel
    subst hg'
    by_cases hkn : k < n
    · have hki : (k : Int) < (n : Int) := by omega
      have hfk := FVs.get (FVs.below hbk l A 0 hfsH.out) k (by rw [← hn.out]; exact hkn)
      rw [Nat.zero_add] at hfk
      obtain ⟨b, o, c0, c1, c2, hA, hbB, h0, h1, h2, hf⟩ := hfk
      subst hA
      have ihk := ih k (by rw [← hn.out]; exact hkn)
      obtain ⟨F', hF'⟩ : ∃ F', F' = l[k]'(by rw [← hn.out]; exact hkn) := ⟨_, rfl⟩
      rw [← hF'] at hf ihk
      have hfr : F'.right = true → True := fun _ => trivial
      replace hF' := Lib.hid hF'
      obtain ⟨fb, ft, fl⟩ := F'
      have hf2 := hf
      unfold FV at hf2
      obtain ⟨A2, cc, hcs, _⟩ := hf2
      simp only [List.cons.injEq, and_true] at hcs
      obtain ⟨rfl, rfl, rfl⟩ := hcs
      generalize hfn : fl.length = fn at *
      replace hfn := Lib.hid hfn
      have hwkH := Lib.hid hwk
      have ihH := Lib.hid ihk
      have hbkH := Lib.hid hbk
      have hokH := Lib.hid hok
      have hfH := Lib.hid hf
      clear hwk hbk hok hf ihk hfr
      have hdk : (F.mk fb ft fl).depth + (deep + 1) ≤ 8 := by
        have := depths_get (l := l) k (by rw [← hn.out]; exact hkn)
        rw [← hF'.out] at this
        omega
      have hbt := bytess_take l k (by rw [← hn.out]; exact hkn)
      rw [← hF'.out] at hbt
      have hlk : (t ++ [40] ++ bytess (l.take k)).length + (F.mk fb ft fl).bytes.length ≤ 65536 := by
        have h1 := bytess_le l (k + 1)
        rw [hbt, List.length_append] at h1
        rw [List.length_append, List.length_append, List.length_singleton]
        omega
      have CP := ihH.out (t ++ [40] ++ bytess (l.take k)) (deep + 1) (.bool fb) (.string ⟨ft.toArray⟩) (.slice A2 fn cc) (wr.alloc (.cells #[.bool fb, .string ⟨ft.toArray⟩, .slice A2 fn cc] 74))
        (FV.below ((Below.refl B wr).alloc (Nat.le_trans hBw hbkH.out.size) _) _ _ hfH.out) (wat_alloc hwkH.out _) (htabH.out.keep (hbkH.out.alloc (Nat.le_trans hBw hbkH.out.size) _) hgB) (by have := hbkH.out.size; simp; omega) hgB hdk hlk
      rw [show ((deep + 1 : Nat) : Int) = (deep : Int) + 1 from by omega] at CP
      replace CP := Lib.hid CP
      replace hbt := Lib.hid hbt
      clear hdk hlk
      go_wp2_with fail
      refine (CP.out).mono ?_
      rintro ev w3 ⟨rfl, hw3, hb3, ho3⟩
      replace hw3 := Lib.hid hw3
      replace hb3 := Lib.hid hb3
      replace ho3 := Lib.hid ho3
      go_wp2_with fail
      go_roundg (n - (k + 1))
      case measure => omega
      case rel => exact ⟨k + 1, rfl, by omega, by go_num, by rw [hbt.out, ← List.append_assoc]; exact hw3.out, (hbkH.out.alloc (Nat.le_trans hBw hbkH.out.size) _).trans hb3.out, (hokH.out.trans (Oth.alloc _ _ _)).trans ho3.out⟩
    · have hkn' : k = n := by omega
      subst hkn'
      have hki : ¬ (k : Int) < (k : Int) := by omega
      rw [List.take_of_length_le (by rw [← hn.out]; exact Nat.le_refl _)] at hwk
      have C41 : Calls Tryz.prog 123 #[.pointer (some ⟨g, 0, none⟩), .int .u8 41] wr fun ev w' => ev = .returned .nilIface ∧ WAt B g (t ++ [40] ++ bytess l ++ [41]) e d w' ∧ Below B wr w' ∧ Oth g wr w' := byte_any B g _ e d 41 wr hwk (by rw [List.length_append, List.length_append, List.length_singleton]; omega) (Nat.le_trans hBw hbk.size)
      replace C41 := Lib.hid C41
      have hbkH := Lib.hid hbk
      have hokH := Lib.hid hok
      clear hwk hbk hok
      go_wp2_with fail
      refine (C41.out).mono ?_
      rintro ev w3 ⟨rfl, hw3, hb3, ho3⟩
      replace hw3 := Lib.hid hw3
      replace hb3 := Lib.hid hb3
      replace ho3 := Lib.hid ho3
      go_wp2_with fail
      go_end0
      exact ⟨rfl, by simpa using hw3.out, hbkH.out.trans hb3.out, hokH.out.trans ho3.out⟩
theorem get_size {l : List F} (k : Nat) (h : k < l.length) : SizeOf.sizeOf l[k] < SizeOf.sizeOf l := List.sizeOf_lt_of_mem (List.getElem_mem h)
theorem put_any (B g : Nat) (e d : Value) : ∀ (n : Nat) (f : F), SizeOf.sizeOf f < n → f.right = true → Puts B g e d f := by
  intro n
  induction n with
  | zero => intro f h; exact absurd h (by omega)
  | succ n ih =>
    rintro ⟨b, x, l⟩ hsz hr t deep c0 c1 c2 w hf h htab hBw hgB hdeep hlen
    unfold FV at hf
    obtain ⟨A, c, hcs, hc, hll, hfs⟩ := hf
    simp only [List.cons.injEq, and_true] at hcs
    obtain ⟨rfl, rfl, rfl⟩ := hcs
    cases b with
    | true =>
      unfold F.right at hr
      simp only [Bool.and_eq_true] at hr
      have hx : x = [] := by simpa using hr.1
      subst hx
      unfold F.bytes F.depth at *
      have hb : (40 :: (bytess l ++ [41])).length = (bytess l).length + 2 := by simp
      rw [hb] at hlen
      refine put_list B g e d l (fun k hk => ih _ ?_ (rights_get hr.2 k hk)) t deep A c w hll hfs h htab hBw hgB hdeep hlen
      have := get_size k hk
      have h2 : SizeOf.sizeOf (F.mk true [] l) = 1 + SizeOf.sizeOf true + SizeOf.sizeOf ([] : List UInt8) + SizeOf.sizeOf l := by rw [F.mk.sizeOf_spec]
      omega
    | false =>
      unfold F.right at hr
      have hl0 : l = [] := by simpa using hr
      subst hl0
      have eF : (txt (⟨x.toArray⟩ : ByteArray).data.toList) = .mk false x [] := rfl
      have := put_text B g t e d ⟨x.toArray⟩ deep A c w h htab (by omega) (by rw [eF]; exact hlen) hBw
      rw [eF] at this
      exact this
end Go.Proofs.YtbiioaggilaebaaGreatDoor.Tm
set_option linter.unusedVariables false
set_option linter.unusedSimpArgs false
namespace Go.Proofs.YtbiioaggilaebaaGreatDoor.B
open Go Go.RowKit
section
variable {P : Program} {ops : Array Oper} {md : Region.Mode}
def pathB (md : Region.Mode) (ops : Array Oper) : Nat → Nat → Nat → Bool
  | 0, _, _ => false
  | f + 1, i, n => match ops[n]? with
    | some o => o.after.any fun e => Region.binds md e && (e.on == i || pathB md ops f i e.on)
    | none => false
structure Clo (md : Region.Mode) (ops : Array Oper) (listed : Array Bool) : Prop where
  size : listed.size = ops.size
  closed : ∀ j oj, ops[j]? = some oj → listed.getD j false = true → ∀ e ∈ oj.after, Region.binds md e = true → listed.getD e.on false = true
theorem Clo.set {i : Nat} {listed : Array Bool} (inv : Clo md ops listed) (hi : i ∈ Region.ready md ops listed) : Clo md ops (listed.setIfInBounds i true) := by
  obtain ⟨_, oi, hoi, hall⟩ := mem_ready.1 hi
  refine ⟨by simp [inv.size], fun j oj hj hl e he hb => ?_⟩
  by_cases hij : i = j
  · subst hij
    have : oj = oi := Option.some.inj (hj.symm.trans hoi)
    subst this
    exact getD_set_true (hall e he hb)
  · rw [getD_set_ne false hij] at hl
    exact getD_set_true (inv.closed j oj hj hl e he hb)
theorem path_listed {listed : Array Bool} (inv : Clo md ops listed) : ∀ (f i n : Nat), pathB md ops f i n = true → listed.getD n false = true → listed.getD i false = true
  | 0, _, _, h, _ => by simp [pathB] at h
  | f + 1, i, n, h, hn => by
    unfold pathB at h
    split at h
    · rename_i o ho
      obtain ⟨e, he, hb⟩ := Array.any_eq_true'.1 h
      simp only [Bool.and_eq_true, Bool.or_eq_true, beq_iff_eq] at hb
      have h1 := inv.closed n o ho hn e he hb.1
      rcases hb.2 with h2 | h2
      · rw [← h2]; exact h1
      · exact path_listed inv f i e.on h2 h1
    · cases h
theorem path_ready {listed : Array Bool} (inv : Clo md ops listed) {f i n : Nat} (h : pathB md ops f i n = true) (hn : n ∈ Region.ready md ops listed) : listed.getD i false = true := by
  cases f with
  | zero => simp [pathB] at h
  | succ f =>
    obtain ⟨_, o, ho, hall⟩ := mem_ready.1 hn
    unfold pathB at h
    rw [ho] at h
    obtain ⟨e, he, hb⟩ := Array.any_eq_true'.1 h
    simp only [Bool.and_eq_true, Bool.or_eq_true, beq_iff_eq] at hb
    have h1 := hall e he hb.1
    rcases hb.2 with h2 | h2
    · rw [← h2]; exact h1
    · exact path_listed inv f i e.on h2 h1
def askS (md : Region.Mode) (ops : Array Oper) (ms : List Nat) (j : Nat) : Bool := ms.any fun m => decide (m ≠ j) && !pathB md ops ops.size m j
def wpAnyM (P : Program) (md : Region.Mode) (ops : Array Oper) (S : World → Prop) (Q : Exit → Act → World → Prop) (ms : List Nat) : Nat → Array Bool → Act → World → Prop
  | 0, listed, a, w => Region.ready md ops listed = [] ∧ Q .normal a w
  | f + 1, listed, a, w => Region.ready md ops listed ≠ [] ∧ ∀ i ∈ Region.ready md ops listed, wpOp P ops (NoPanic Q) i (fun a' w' => (askS md ops ms i = true → S w → S w') ∧ wpAnyM P md ops S Q ms f (listed.setIfInBounds i true) a' w') a w
theorem wpAny_of_M {S : World → Prop} {Q : Exit → Act → World → Prop} {ms : List Nat} : ∀ (f : Nat) (listed : Array Bool) (a : Act) (w : World), wpAnyM P md ops S Q ms f listed a w → wpAny P md ops (NoPanic Q) f listed a w
  | 0, _, _, _, h => ⟨h.1, h.2⟩
  | f + 1, _, _, _, h => ⟨fun e => absurd e h.1, fun i hi => wpOp_mono (fun a' w' hh => wpAny_of_M f _ a' w' hh.2) (h.2 i hi)⟩
theorem wpAnyM_first {C S : World → Prop} {Q : Exit → Act → World → Prop} {ms : List Nat} {i : Nat} {oi : Oper} {v : Value} (hi : ops[i]? = some oi) (hsel : ∀ (j : Nat) (o : Oper) cs b, ops[j]? = some o → o.op ≠ .select cs b)
    (hC : (∀ w, C w) ∨ ((∀ w, C w → S w) ∧ (∀ w, S w → C w) ∧ ms.contains i = true)) :
    ∀ (f : Nat) (listed : Array Bool) (a : Act) (w : World), C w → Clo md ops listed →
      (∀ j oj, ops[j]? = some oj → j ≠ i → listed.getD j true = false → (∀ e ∈ oj.after, Region.binds md e = true → e.on ≠ i) → oi.apart ops oj = true) →
      i ∈ Region.ready md ops listed → YieldsR P ops C oi v a →
      wpAnyM P md ops S Q ms f (listed.setIfInBounds i true) (a.put oi.dst v) w → wpAnyM P md ops S Q ms (f + 1) listed a w := by
  intro f
  induction f with
  | zero =>
    intro listed a w hCw inv _ hr hy H
    refine ⟨fun h => (by rw [h] at hr; cases hr), fun j hj => ?_⟩
    by_cases hji : j = i
    · subst hji; exact hy.op hi hCw ⟨fun _ h => h, H⟩
    · have := ready_mono hj hji
      rw [H.1] at this
      cases this
  | succ f ih =>
    intro listed a w hCw inv hfree hr hy H
    have hun := (mem_ready.1 hr).1
    refine ⟨fun h => (by rw [h] at hr; cases hr), fun j hj => ?_⟩
    by_cases hji : j = i
    · subst hji; exact hy.op hi hCw ⟨fun _ h => h, H⟩
    · have h1 := H.2 j (ready_mono hj hji)
      obtain ⟨hjun, oj, hoj, hall⟩ := mem_ready.1 hj
      have hnot : ∀ e ∈ oj.after, Region.binds md e = true → e.on ≠ i := fun e he hb heq => by
        have h1 := hall e he hb
        rw [heq, getD_both hun] at h1
        cases h1
      have h2 := wpOp_putR hoj (hfree j oj hoj hji hjun hnot) (fun cs b => hsel i oi cs b hi) (fun cs b => hsel j oj cs b hoj) hy h1
      have hfree' : ∀ k ok, ops[k]? = some ok → k ≠ i → (listed.setIfInBounds j true).getD k true = false →
          (∀ e ∈ ok.after, Region.binds md e = true → e.on ≠ i) → oi.apart ops ok = true := fun k ok hk hki hun hno => by
        refine hfree k ok hk hki ?_ hno
        by_cases hjk : j = k
        · subst hjk; exact hjun
        · rw [getD_set_ne true hjk] at hun; exact hun
      have hask : (∀ w, C w) ∨ askS md ops ms j = true := by
        rcases hC with hC | ⟨_, _, hm⟩
        · exact .inl hC
        · right
          unfold askS
          rw [List.any_eq_true]
          refine ⟨i, by simpa using hm, ?_⟩
          rw [Bool.and_eq_true, decide_eq_true_eq, Bool.not_eq_true']
          refine ⟨fun e => hji e.symm, ?_⟩
          cases hp : pathB md ops ops.size i j with
          | false => rfl
          | true =>
            have := path_ready inv hp hj
            rw [getD_both hun] at this
            cases this
      refine wpOp_mono (fun a' w' h3 => ⟨h3.2.1, ih (listed.setIfInBounds j true) a' w' ?_ (inv.set hj) hfree' (ready_mono hr (Ne.symm hji)) h3.1 ?_⟩) h2
      · rcases hC with hC | ⟨h4, h5, _⟩
        · exact hC _
        · rcases hask with hC | hask
          · exact hC _
          · exact h5 _ (h3.2.1 hask (h4 _ hCw))
      · rw [Array.setIfInBounds_comm _ _ hji]
        exact h3.2.2
inductive Item where
  | mem (ks : List Nat)
  | pure (ks : List Nat)
  | keep (k : Nat)
  | last (k : Nat)
abbrev InC (S : World → Prop) : World → Prop := fun W => ∃ x : InS S, W = x.val
instance : Nonempty (InS fun _ => True) := ⟨⟨default, trivial⟩⟩
def wpMix (P : Program) (l : List Oper) (S : World → Prop) (Q : Exit → Act → World → Prop) : List Item → Act → World → Prop
  | [], a, w => Q .normal a w
  | .mem ks :: r, a, w => wpQuiet P l.toArray (InC S) (fun a' => wpMix P l S Q r a' w) (pick l ks) a
  | .pure ks :: r, a, w => wpQuiet P l.toArray (InC fun _ => True) (fun a' => wpMix P l S Q r a' w) (pick l ks) a
  | .keep k :: r, a, w => wpList P l.toArray (stepPost Q (fun a' w' => S w' ∧ wpMix P l S Q r a' w')) (pick l [k]) a w
  | .last k :: r, a, w => wpList P l.toArray (stepPost Q (fun a' w' => wpMix P l S Q r a' w')) (pick l [k]) a w
def hasMem : List Item → Bool
  | [] => false
  | .mem _ :: _ => true
  | _ :: r => hasMem r
def takeB (md : Region.Mode) (ops : Array Oper) (ok : Nat → Oper → Bool) (k : Array Bool → Bool) : List Nat → Array Bool → Bool
  | [], listed => k listed
  | i :: is, listed => (match ops[i]? with | some o => plainOp o.op && ok i o | none => false) && (Region.ready md ops listed).contains i && Region.free md ops listed i && takeB md ops ok k is (listed.setIfInBounds i true)
def mixB (md : Region.Mode) (ops : Array Oper) (ms : List Nat) : List Item → Array Bool → Bool
  | [], listed => (Region.ready md ops listed).isEmpty
  | .mem ks :: r, listed => takeB md ops (fun i _ => ms.contains i) (mixB md ops ms r) ks listed
  | .pure ks :: r, listed => takeB md ops (fun _ _ => true) (mixB md ops ms r) ks listed
  | .keep k :: r, listed => decide (Region.ready md ops listed = [k]) && mixB md ops ms r (listed.setIfInBounds k true)
  | .last k :: r, listed => decide (Region.ready md ops listed = [k]) && !askS md ops ms k && !hasMem r && mixB md ops ms r (listed.setIfInBounds k true)
def sizes : List Item → Nat
  | [] => 0
  | .mem ks :: r => ks.length + sizes r
  | .pure ks :: r => ks.length + sizes r
  | .keep _ :: r => sizes r + 1
  | .last _ :: r => sizes r + 1
def picksB (l : List Oper) : List Item → Bool
  | [] => true
  | .mem ks :: r => pickB l ks && picksB l r
  | .pure ks :: r => pickB l ks && picksB l r
  | .keep k :: r => pickB l [k] && picksB l r
  | .last k :: r => pickB l [k] && picksB l r
theorem take_sound {l : List Oper} {S C : World → Prop} {Q : Exit → Act → World → Prop} {ms : List Nat} (hsel : Region.noSelect l.toArray = true) (ok : Nat → Oper → Bool)
    (hC : ∀ i o, ok i o = true → (∀ w, C w) ∨ ((∀ w, C w → S w) ∧ (∀ w, S w → C w) ∧ ms.contains i = true)) {K : Act → Prop} {w : World} (hCw : C w) (kb : Array Bool → Bool) (m : Nat)
    (hK : ∀ listed a, Clo .any l.toArray listed → kb listed = true → K a → wpAnyM P .any l.toArray S Q ms m listed a w) :
    ∀ (ks : List Nat) (lr : List Oper) (listed : Array Bool) (a : Act), lr.map some = ks.map (fun k => l.toArray[k]?) → Clo .any l.toArray listed → takeB .any l.toArray ok kb ks listed = true → wpQuiet P l.toArray C K lr a →
    wpAnyM P .any l.toArray S Q ms (ks.length + m) listed a w
  | [], lr, listed, a, hl, inv, hB, h => by
    obtain rfl : lr = [] := by simpa using hl
    rw [List.length_nil, Nat.zero_add]
    exact hK listed a inv (by simpa [takeB] using hB) h
  | i :: ks, lr, listed, a, hl, inv, hB, h => by
    obtain ⟨o, lr, rfl⟩ : ∃ o l', lr = o :: l' := by
      cases lr with
      | nil => simp at hl
      | cons o l => exact ⟨o, l, rfl⟩
    simp only [List.map_cons, List.cons.injEq] at hl
    simp only [takeB, Bool.and_eq_true] at hB
    obtain ⟨⟨⟨hp, hr⟩, hf⟩, hB'⟩ := hB
    rw [← hl.1] at hp
    simp only [Bool.and_eq_true] at hp
    have hr' : i ∈ Region.ready .any l.toArray listed := by simpa using hr
    obtain ⟨v, hy, hk⟩ := yieldsR_of_quiet (ops := l.toArray) hp.1 h
    rw [List.length_cons, show ks.length + 1 + m = (ks.length + m) + 1 from by omega]
    exact wpAnyM_first hl.1.symm (Region.noSelect_spec hsel) (hC i o hp.2) _ listed a w hCw inv (Region.free_spec hl.1.symm hf) hr' hy
      (take_sound hsel ok hC hCw kb m hK ks lr _ _ hl.2 (inv.set hr') hB' hk)
theorem mix_sound {l : List Oper} {S : World → Prop} {Q : Exit → Act → World → Prop} {ms : List Nat} (hsel : Region.noSelect l.toArray = true) :
    ∀ (its : List Item) (listed : Array Bool) (a : Act) (w : World), (hasMem its = true → S w) → picksB l its = true → Clo .any l.toArray listed → mixB .any l.toArray ms its listed = true → wpMix P l S Q its a w →
    wpAnyM P .any l.toArray S Q ms (sizes its) listed a w
  | [], listed, a, w, _, _, inv, hB, h => ⟨by simpa [mixB] using hB, h⟩
  | .mem ks :: r, listed, a, w, hS, hp, inv, hB, h => by
    simp only [picksB, Bool.and_eq_true] at hp
    refine take_sound (C := InC S) hsel (fun i _ => ms.contains i) (fun i o hm => .inr ⟨fun w hw => ?_, fun w hw => ⟨⟨w, hw⟩, rfl⟩, hm⟩) ⟨⟨w, hS rfl⟩, rfl⟩ (mixB .any l.toArray ms r) (sizes r) (fun listed a inv hb hk => mix_sound hsel r listed a w (fun _ => hS rfl) hp.2 inv hb hk) ks (pick l ks) listed a (pick_map l ks hp.1) inv hB h
    obtain ⟨x, rfl⟩ := hw
    exact x.mem
  | .pure ks :: r, listed, a, w, hS, hp, inv, hB, h => by
    simp only [picksB, Bool.and_eq_true] at hp
    exact take_sound (C := InC fun _ => True) hsel (fun _ _ => true) (fun i o _ => .inl fun w => ⟨⟨w, trivial⟩, rfl⟩) ⟨⟨w, trivial⟩, rfl⟩ (mixB .any l.toArray ms r) (sizes r) (fun listed a inv hb hk => mix_sound hsel r listed a w hS hp.2 inv hb hk) ks (pick l ks) listed a (pick_map l ks hp.1) inv hB h
  | .keep k :: r, listed, a, w, hS, hp, inv, hB, h => by
    simp only [picksB, Bool.and_eq_true] at hp
    simp only [mixB, Bool.and_eq_true, decide_eq_true_eq] at hB
    have hm := pick_map l [k] hp.1
    refine ⟨by rw [hB.1]; simp, fun i hi => ?_⟩
    rw [hB.1] at hi
    obtain rfl : i = k := by simpa using hi
    have hr' : i ∈ Region.ready .any l.toArray listed := by rw [hB.1]; simp
    simp only [pick, List.map_cons, List.map_nil, List.cons.injEq, and_true] at hm
    exact wpOp_mono (fun a' w' hh => ⟨fun _ _ => hh.1, mix_sound hsel r _ a' w' (fun _ => hh.1) hp.2 (inv.set hr') hB.2 hh.2⟩) (wpOp_of_list hm.symm h)
  | .last k :: r, listed, a, w, hS, hp, inv, hB, h => by
    simp only [picksB, Bool.and_eq_true] at hp
    simp only [mixB, Bool.and_eq_true, decide_eq_true_eq, Bool.not_eq_true'] at hB
    have hm := pick_map l [k] hp.1
    refine ⟨by rw [hB.1.1.1]; simp, fun i hi => ?_⟩
    rw [hB.1.1.1] at hi
    obtain rfl : i = k := by simpa using hi
    have hr' : i ∈ Region.ready .any l.toArray listed := by rw [hB.1.1.1]; simp
    simp only [pick, List.map_cons, List.map_nil, List.cons.injEq, and_true] at hm
    exact wpOp_mono (fun a' w' hh => ⟨fun e => by (rw [hB.1.1.2] at e; cases e), mix_sound hsel r _ a' w' (fun e => by (rw [hB.1.2] at e; cases e)) hp.2 (inv.set hr') hB.2 hh⟩) (wpOp_of_list hm.symm h)
def allB (l : List Oper) (ms : List Nat) (its : List Item) : Bool :=
  Region.noSelect l.toArray && decide (sizes its = l.toArray.size) && picksB l its && mixB .any l.toArray ms its (Array.replicate l.toArray.size false)
theorem wp_region_mix {id : Nat} {Q : Exit → Act → World → Prop} {a : Act} {w : World} {l : List Oper} (S : World → Prop) (ms : List Nat) (its : List Item)
    (hm : P.follows .mixedOrders = true) (hB : allB l ms its = true) (hS : S w.drew) (h : wpMix P l S Q its a w.drew) : (Code.region id l.toArray true).wp P Q a w := by
  simp only [allB, Bool.and_eq_true, decide_eq_true_eq] at hB
  obtain ⟨⟨⟨hsel, hlen⟩, hp⟩, hb⟩ := hB
  have inv0 : Clo .any l.toArray (Array.replicate l.toArray.size false) := ⟨by simp, fun j oj _ hl => (by rw [getD_replicate_false] at hl; cases hl)⟩
  have H := mix_sound (P := P) (Q := Q) hsel its _ a w.drew (fun _ => hS) hp inv0 hb h
  rw [hlen] at H
  refine wp_region_noPanic ?_
  exact wp_region_any hm (wpAny_of_M _ _ _ _ H)
end
end Go.Proofs.YtbiioaggilaebaaGreatDoor.B
