/- What LawPatchInverse lean on, part h of 29: the texts TmK, PaE, Rdg, RefB, CardH, ShaK, TmW. -/
import Derived.Test.YtbiioaggilaebaaGreatDoorTX0
import Derived.Test.YtbiioaggilaebaaGreatDoorTXb
import Derived.Test.YtbiioaggilaebaaGreatDoorTXf
import Derived.Test.YtbiioaggilaebaaGreatDoorTXg
import Derived.Lib.AtoiAllCases
import Derived.Lib.ItoaMem
import Derived.Test.YtbiioaggilaebaaGreatDoorChecked
import Derived.Laws.StructEq
import Derived.WalkKit
import Derived.StillTail
import Derived.Deep.RegionHeld3
import Derived.Deep.LoopGhost
import Derived.Deep.RegionLaw
import Derived.OwnWalk
import Derived.Deep.OwnRows
import Derived.Lib.Hide
import Derived.Lay
import Derived.LaidHandle
import Derived.LaidLaws
import Derived.Test.YtbiioaggilaebaaGreatDoorProg
import Derived.Lib.SmallJoins
import Derived.Deep.RegionWith
import Derived.Deep.DeepFit
import Derived.IntWalk
set_option linter.all false
set_option maxRecDepth 100000
set_option maxHeartbeats 16000000
namespace Go.Proofs.YtbiioaggilaebaaGreatDoor.Tm
open Go Go.Lib
def valFrom (a : Nat) (l : List UInt8) : Nat := l.foldl (fun a c => 10 * a + (c.toNat - 48)) a
theorem valFrom_ge : ∀ (l : List UInt8) (a : Nat), a <= valFrom a l
 | [], a => Nat.le_refl _
 | c :: l, a => by
  have := valFrom_ge l (10 * a + (c.toNat - 48))
  show a <= valFrom (10 * a + (c.toNat - 48)) l
  omega
theorem parse_digits : ∀ (l : List UInt8) (a : Nat), (∀ c ∈ l, isD c) -> valFrom a l < 18446744073709551616 -> parseUint10 a l = .ok (valFrom a l)
 | [], a, _, _ => rfl
 | c :: l, a, hd, hv => by
  have h1 : 48 <= c.toNat /\ c.toNat <= 57 := hd c (by simp)
  have e : valFrom a (c :: l) = valFrom (10 * a + (c.toNat - 48)) l := rfl
  rw [e] at hv ⊢
  have h2 := valFrom_ge l (10 * a + (c.toNat - 48))
  unfold parseUint10
  rw [if_pos h1, if_neg (by omega), if_neg (by omega), show a * 10 + (c.toNat - 48) = 10 * a + (c.toNat - 48) from by omega]
  exact parse_digits l _ (fun d hd' => hd d (by simp [hd'])) hv
theorem parseMag_dec (k : Nat) (h : k < 18446744073709551616) : parseMag (decDigits k) = .ok k := by
 have e : valFrom 0 (decDigits k) = k := val_dec k
 unfold parseMag
 rw [if_neg (dec_ne k), parse_digits (decDigits k) 0 (fun c hc => dec_digit k c hc) (by rw [e]; exact h), e]
theorem atoi_itoa (n : Int) (h0 : -9223372036854775808 <= n) (h1 : n <= 9223372036854775807) : atoiAll (itoa n) = .ok n := by
 by_cases hn : 0 <= n
 . obtain ⟨k, rfl⟩ : ∃ k : Nat, n = (k : Int) := ⟨n.toNat, by omega⟩
   rw [itoa_nonneg]
   obtain ⟨c, r, hc⟩ := List.exists_cons_of_ne_nil (dec_ne k)
   have hd := dec_digit k c (by rw [hc]; simp)
   have hp := parseMag_dec k (by omega)
   rw [hc] at hp ⊢
   rw [atoiAll_plain c r (by omega) (by omega), hp]
   unfold signless
   simp only []
   rw [if_neg (by omega)]
 . obtain ⟨k, rfl, hk⟩ : ∃ k : Nat, n = -(k : Int) /\ 1 <= k := ⟨(-n).toNat, by omega, by omega⟩
   rw [itoa_neg k hk, atoiAll_minus, parseMag_dec k (by omega)]
   unfold signed
   simp only []
   rw [if_neg (by omega)]
theorem atoiSat_bounds (l : List UInt8) : -9223372036854775808 <= atoiSat l /\ atoiSat l <= 9223372036854775807 := by
 unfold atoiSat
 split <;> omega
end Go.Proofs.YtbiioaggilaebaaGreatDoor.Tm
namespace Go.Proofs.YtbiioaggilaebaaGreatDoor.Pa
open Go Go.RowKit YtbiioaggilaebaaGreatDoorW.PrintWords B
theorem ref_eqA (d : Nat) (w : World) (x0 y0 x1 y1 : Int) : (Op.equalIn (d + 2) 36 (.agg #[.int .i64 x0, .int .i64 x1]) (.agg #[.int .i64 y0, .int .i64 y1])).run Tryz.prog w = .ok (x0 == y0 && (x1 == y1)) w := by
 refine eqA_of Tryz.underlying36 (by kernel_rfl) ?_
 refine eqf_cons (by rfl) (by go_simp; rfl) (by go_simp; rfl) (by go_simp) ?_
 exact eqf_last (by rfl) (by go_simp; rfl) (by go_simp; rfl) (by go_simp)
end Go.Proofs.YtbiioaggilaebaaGreatDoor.Pa
namespace Go.Proofs.YtbiioaggilaebaaGreatDoor.B
open Go Go.RowKit
def plainOp : Op -> Bool
 | .move _ | .assign _ | .pick .. | .load .. | .binOp .. | .unOp .. | .convert .. | .slice .. | .fieldAddr .. | .field .. | .indexAddr .. | .index .. | .extract .. | .build .. | .nilCheck _ | .lookup .. => true
 | _ => false
section
variable {P : Program}
theorem v_ne (s : Sem Value) (w w' : World) (f : FuncId) (args : Array Value) : ((do pure (Next.value (<- s))) : Sem Next).run P w ≠ .ok (.enter f args) w' := by
 simp
 cases s.run P w <;> simp
theorem plain_no (ρ : Operand -> Value) (o : Oper) (h : plainOp o.op = true) (w w' : World) (f : FuncId) (args : Array Value) : (execOp ρ o).run P w ≠ .ok (.enter f args) w' := by
 unfold execOp
 cases ho : o.op <;> rw [ho] at h <;> first | (cases h; done) | (simp only []; exact v_ne _ _ _ _ _) | (simp; done) | skip
 . simp only [Sem.run_bind]
   cases (asBool (ρ _)).run P w <;> simp
 . simp only []
   split
   . unfold runtimePanic; simp
   . unfold runtimePanic; simp
   . unfold runtimePanic; simp
   . split
     . unfold runtimePanic; simp
     . simp only [Sem.run_bind]
       cases (program).run P w with
       | halt h w1 => simp
       | ok p w1 =>
        simp only [Result.andThen_ok]
        cases (nilAhead _ _ _ _).run P w1 with
        | halt h w2 => simp
        | ok b w2 =>
         simp only [Result.andThen_ok]
         split
         . simp only [Sem.run_bind]
           cases (unsupported _).run P w2 <;> simp
         . simp
     . simp
   . simp
variable {ops : Array Oper} {md : Region.Mode} {C : World -> Prop}
def YieldsR (P : Program) (ops : Array Oper) (C : World -> Prop) (o : Oper) (v : Value) (a : Act) : Prop :=
 (Region.wanted o (yielded ops a.tmps) = true /\ ∀ w, C w -> (execOp a.eval o).run P w = .ok (.value v) w \/ ((execOp a.eval o).run P w = .ok .skip w /\ v = undef)) \/
 (Region.wanted o (yielded ops a.tmps) = false /\ v = undef)
theorem YieldsR.of_same {o : Oper} {v : Value} {a a' : Act} (hy : YieldsR P ops C o v a) (he : execOp a'.eval o = execOp a.eval o)
 (hw : Region.wanted o (yielded ops a'.tmps) = Region.wanted o (yielded ops a.tmps)) : YieldsR P ops C o v a' := by
 unfold YieldsR at *
 rw [he, hw]
 exact hy
theorem YieldsR.op {i : Nat} {o : Oper} {v : Value} {a : Act} {w : World} {Q : Exit -> Act -> World -> Prop} (hi : ops[i]? = some o) (hy : YieldsR P ops C o v a) (hC : C w) {K : Act -> World -> Prop} (h : K (a.put o.dst v) w) : wpOp P ops Q i K a w := by
 unfold wpOp
 simp only [hi]
 rcases hy with ⟨hw, hv⟩ | ⟨hw, rfl⟩
 . simp only [hw, if_true]
   left
   unfold Oper.wp
   rcases hv w hC with h1 | ⟨h1, h2⟩
   . rw [h1]; exact h
   . rw [h1, Oper.upon_skip, <- h2]; exact h
 . simp only [hw, Bool.false_eq_true, if_false]; exact h
theorem yieldsR_of_quiet {o : Oper} {a : Act} {K : Act -> Prop} (hp : plainOp o.op = true) (h : if Region.wanted o (yielded ops a.tmps) then o.quiet P a C K else K (a.put o.dst undef)) :
 ∃ v, YieldsR P ops C o v a /\ K (a.put o.dst v) := by
 by_cases hw : Region.wanted o (yielded ops a.tmps) = true
 . rw [if_pos hw] at h
   obtain ⟨v, h1, h2⟩ := h
   refine ⟨v, .inl ⟨hw, fun w hC => ?_⟩, h2⟩
   have h3 := h1 w hC
   unfold Oper.quietAt at h3
   have hn := plain_no (P := P) a.eval o hp w
   generalize (execOp a.eval o).run P w = r at *
   cases r with
   | ok n w' =>
    cases n <;> simp only [Oper.quietUpon] at h3
    case value u => obtain ⟨rfl, rfl⟩ := h3; exact .inl rfl
    case skip => obtain ⟨rfl, rfl⟩ := h3; exact .inr ⟨rfl, rfl⟩
    case enter f args => exact absurd rfl (hn _ f args)
   | halt x w' => simp only [Oper.quietUpon] at h3
 . rw [if_neg hw] at h
   exact ⟨undef, .inr ⟨by simpa using hw, rfl⟩, h⟩
def stepPost (Q : Exit -> Act -> World -> Prop) (K : Act -> World -> Prop) : Exit -> Act -> World -> Prop
 | .normal, a, w => K a w
 | .panic _, _, _ => False
 | e, a, w => Q e a w
theorem wp_post {o : Oper} {a : Act} {w : World} {K K' : Act -> World -> Prop} {Q Q' : Exit -> Act -> World -> Prop} (hp : ∀ c a w, Q (.panic c) a w -> Q' (.panic c) a w) (ho : LetsOut Q -> LetsOut Q') (hk : ∀ a w, K a w -> K' a w) (h : o.wp P a w K Q) : o.wp P a w K' Q' := by
 unfold Oper.wp at *
 generalize (execOp a.eval o).run P w = r at *
 cases r with
 | ok n w' =>
  cases n <;> simp only [Oper.upon] at h ⊢
  case value u => exact hk _ _ h
  case skip => exact hk _ _ h
  case defer d => exact hk _ _ h
  case enter f args =>
   refine Calls.mono h fun e w'' he => ?_
   cases e with
   | returned u => exact hk _ _ he
   | panicked c => exact hp _ _ _ he
   | outgrown => exact ho he
  case row row args => exact Rows.mono h fun u w'' he => hk _ _ he
 | halt x w' =>
  cases x <;> simp only [Oper.upon] at h ⊢
  case panic u => exact hp _ _ _ h
theorem wpOp_of_list {i : Nat} {o : Oper} (hi : ops[i]? = some o) {K : Act -> World -> Prop} {Q : Exit -> Act -> World -> Prop} {a : Act} {w : World} (h : wpList P ops (stepPost Q K) [o] a w) : wpOp P ops (NoPanic Q) i K a w := by
 unfold wpOp
 simp only [hi]
 unfold wpList at h
 have ho : LetsOut (stepPost Q K) -> LetsOut (NoPanic Q) := fun ⟨a, w, h⟩ => ⟨a, w, h⟩
 split
 . rename_i hw
   rw [if_pos hw] at h
   rcases h with h | ⟨h1, h2⟩
   . exact .inl (wp_post (fun _ _ _ h => h) ho (fun _ _ h => h) h)
   . exact .inr ⟨h1, ho h2⟩
 . rename_i hw
   rw [if_neg hw] at h
   exact h
theorem wpOp_putR {j : Nat} {oi oj : Oper} {v : Value} {S : World -> Prop} {Q : Exit -> Act -> World -> Prop} (hj : ops[j]? = some oj) (hap : oi.apart ops oj = true)
 (hsi : ∀ cs b, oi.op ≠ .select cs b) (hsj : ∀ cs b, oj.op ≠ .select cs b) {K : Act -> World -> Prop} {a : Act} {w : World}
 (hy : YieldsR P ops S oi v a) (h : wpOp P ops (NoPanic Q) j K (a.put oi.dst v) w) :
 wpOp P ops (NoPanic Q) j (fun a' w' => YieldsR P ops S oi v a' /\ K (a'.put oi.dst v) w') a w := by
 obtain ⟨h1, h2, h3⟩ := Oper.apart_spec hap
 have keep : ∀ (a : Act), YieldsR P ops S oi v a -> ∀ u, YieldsR P ops S oi v (a.put oj.dst u) := fun a hy u =>
  hy.of_same (execOp_put oi hsi a oj.dst u h3) (wanted_put oi a oj.dst u h3)
 have keepD : ∀ d, YieldsR P ops S oi v { a with defers := d :: a.defers } := fun d => hy.of_same rfl rfl
 unfold wpOp at *
 simp only [hj] at *
 rw [wanted_put oj a oi.dst v h1] at h
 split
 . rename_i hw
   simp only [hw, if_true] at h
   rcases h with h | ⟨hasks, hlets⟩
   case inr => exact .inr ⟨by unfold Oper.asks at *; rw [execOp_put oj hsj a oi.dst v h1] at hasks; exact hasks, hlets⟩
   refine .inl ?_
   unfold Oper.wp at *
   rw [execOp_put oj hsj a oi.dst v h1] at h
   generalize (execOp a.eval oj).run P w = r at *
   cases r with
   | ok n w' =>
    cases n <;> simp only [Oper.upon] at h ⊢
    case value u => exact ⟨keep a hy u, by rw [<- Act.put_comm a v u h2]; exact h⟩
    case skip => exact ⟨keep a hy _, by rw [<- Act.put_comm a v undef h2]; exact h⟩
    case defer d =>
     refine ⟨keep _ (keepD d) _, ?_⟩
     rw [<- Act.put_comm _ v undef h2, <- Act.put_defers]
     exact h
    case enter f args =>
     refine Calls.mono h fun e w'' he => ?_
     cases e with
     | returned u => exact ⟨keep a hy u, by rw [<- Act.put_comm a v u h2]; exact he⟩
     | panicked c => exact he
     | outgrown => exact he
    case row row args => exact Rows.mono h fun u w'' he => ⟨keep a hy u, by rw [<- Act.put_comm a v u h2]; exact he⟩
   | halt x w' =>
    cases x <;> simp only [Oper.upon] at h ⊢
    case panic u => exact h
 . rename_i hw
   simp only [hw] at h
   exact ⟨keep a hy _, by rw [<- Act.put_comm a v undef h2]; exact h⟩
structure InS (S : World -> Prop) where
 val : World
 mem : S val
def pick (l : List Oper) : List Nat -> List Oper
 | [] => []
 | k :: ks => l.getD k { dst := none, op := .move (.tmp 0), type := 0, pos := "", after := #[], guard := none } :: pick l ks
def pickB (l : List Oper) (ks : List Nat) : Bool := ks.all fun k => decide (k < l.length)
theorem pick_map (l : List Oper) : ∀ ks : List Nat, pickB l ks = true -> (pick l ks).map some = ks.map (fun k => l.toArray[k]?)
 | [], _ => rfl
 | k :: ks, h => by
  simp only [pickB, List.all_cons, Bool.and_eq_true, decide_eq_true_eq] at h
  rw [pick, List.map_cons, List.map_cons, pick_map l ks h.2, List.getD_eq_getElem?_getD, List.getElem?_eq_getElem h.1]
  simp [h.1]
end
end Go.Proofs.YtbiioaggilaebaaGreatDoor.B
namespace Go.Proofs.YtbiioaggilaebaaGreatDoor.Ref
open Go.RowKit B
def nc (l : List Nat) : Array Value := (l.map fun x => Value.int .u64 ((x : Nat) : Int)).toArray
theorem nc_get (l : List Nat) (i : Nat) (h : i < l.length) : (nc l)[i]? = some (.int .u64 ((l.getD i 0 : Nat) : Int)) := by
 simp [nc, List.getD_eq_getElem?_getD, List.getElem?_eq_getElem h]
theorem nc_set (l : List Nat) (i : Nat) (x : Nat) : (nc l).setIfInBounds i (.int .u64 ((x : Nat) : Int)) = nc (l.set i x) := by
 simp only [nc, List.setIfInBounds_toArray, List.map_set]
def RowU (w : World) (v : Value) (l : List Nat) : Prop := ∃ g cap, v = .slice (some ⟨g, 0, none⟩) l.length cap /\ ∀ k, k < l.length -> w.cell? ⟨g, k, none⟩ = some (.int .u64 ((l.getD k 0 : Nat) : Int))
theorem RowU.tch {w w' : World} {v : Value} {l : List Nat} (h : RowU w v l) (ht : Tch (fun _ => False) w w') : RowU w' v l := by
 obtain ⟨g, cap, hv, hc⟩ := h
 exact ⟨g, cap, hv, fun k hk => ht.cell (hc k hk) (fun e => e)⟩
theorem RowU.of {w : World} {g cap : Nat} {l : List Nat} {t : TypeId} {fz : Nat × Nat} (h : w.heap[g]? = some (.cells (nc l) t fz)) : RowU w (.slice (some ⟨g, 0, none⟩) l.length cap) l :=
 ⟨g, cap, rfl, fun k hk => by rw [cell_of h, nc_get l k hk]⟩
theorem limbs_any (x : Nat) (hx : x < 18446744073709551616) (w : World) :
 Calls Tryz.prog 176 #[.int .u64 (x : Int)] w fun e w' => e = .returned (.slice (some ⟨w.heap.size, 0, none⟩) 3 3) /\ w' = w.alloc (.cells (nc [x % 65536, x / 65536 % 65536, x / 4294967296]) 137) := by
 go_enter Tryz.func176, Tryz.ntmps176
 go_wp2_with fail
 go_ret
 have e : nc [x % 65536, x / 65536 % 65536, x / 4294967296] = #[.int .u64 ((x : Int) % 65536), .int .u64 ((x : Int) / 65536 % 65536), .int .u64 ((x : Int) / 4294967296)] := by simp [nc]
 rw [e]
 exact ⟨rfl, rfl⟩
def TimR (w0 w : World) (a b : List Nat) (i j c : Nat) : Prop := ∃ o, w.heap[w0.heap.size]? = some (.cells (nc o) 137 (0, 0)) /\ Tch (fun _ => False) w0 w /\ Tim a b i j c o
def TimesPost (w : World) (a b : List Nat) (e : Ending) (w' : World) : Prop := ∃ v l, e = .returned v /\ RowU w' v l /\ l.length = a.length + b.length /\ (∀ k, l.getD k 0 < 65536) /\ val l = val a * val b /\ Tch (fun _ => False) w w'
theorem made_nc (n : Nat) : madeCells #[.int .u64 0] n = nc (List.replicate n 0) := by
 unfold nc
 rw [List.map_replicate]
 apply Array.ext
 . simp [madeCells]
 . intro k h1 h2
   simp [madeCells, Nat.mod_one]
theorem timR_step {w0 w : World} {a b o : List Nat} {i j c : Nat} {v q : Int} (ho : w.heap[w0.heap.size]? = some (.cells (nc o) 137 (0, 0))) (ht : Tch (fun _ => False) w0 w) (h : Tim a b i j c o)
 (hi : i < a.length) (hj : j < b.length) (ha : a.getD i 0 < 65536) (hb : b.getD j 0 < 65536)
 (hv : v = (((o.getD (i + j) 0 + a.getD i 0 * b.getD j 0 + c) % 65536 : Nat) : Int)) (hq : q = (((o.getD (i + j) 0 + a.getD i 0 * b.getD j 0 + c) / 65536 : Nat) : Int)) :
 ∃ c' : Nat, q = (c' : Int) /\ TimR w0 (w.setCell ⟨w0.heap.size, i + j, none⟩ (.int .u64 v)).drew a b i (j + 1) c' := by
 subst hv
 exact ⟨_, hq, _, by show (w.setCell _ _).heap[_]? = _; rw [heap_set_some ho, nc_set], (ht.setNew ⟨w0.heap.size, i + j, none⟩ (Nat.le_refl _) _).drew, h.step hi hj ha hb⟩
theorem timR_row {w0 w : World} {a b o : List Nat} {i c : Nat} {v : Int} (ho : w.heap[w0.heap.size]? = some (.cells (nc o) 137 (0, 0))) (ht : Tch (fun _ => False) w0 w) (h : Tim a b i b.length c o)
 (hi : i < a.length) (hv : v = ((o.getD (i + b.length) 0 + c : Nat) : Int)) :
 TimR w0 (w.setCell ⟨w0.heap.size, i + b.length, none⟩ (.int .u64 v)) a b (i + 1) 0 0 := by
 subst hv
 exact ⟨_, by rw [heap_set_some ho, nc_set], ht.setNew ⟨w0.heap.size, i + b.length, none⟩ (Nat.le_refl _) _, h.row hi⟩
theorem timR_done {w0 w : World} {a b : List Nat} (h : TimR w0 w a b a.length 0 0) : TimesPost w0 a b (.returned (.slice (some ⟨w0.heap.size, 0, none⟩) (a.length + b.length) (a.length + b.length))) w := by
 obtain ⟨o, ho, ht, hT⟩ := h
 refine ⟨_, o, rfl, ?_, hT.len, hT.small, hT.done rfl, ht⟩
 rw [<- hT.len]; exact RowU.of ho
theorem info64 : (Tryz.prog.info? 137).map (fun i => (i.zero, i.size, i.bytes)) = some (some (.int .u64 0), 1, 8) := by kernel_rfl
theorem times_any (a b : List Nat) (hla : a.length <= 100) (hlb : b.length <= 100) (ha : ∀ k, a.getD k 0 < 65536) (hb : ∀ k, b.getD k 0 < 65536) (va vb : Value) (w : World) (hva : RowU w va a) (hvb : RowU w vb b) :
 Calls Tryz.prog 177 #[va, vb] w fun e w' => TimesPost w a b e w' := by
 have hmk : ∀ W : World, (Instr.makeSlice 235 (.int .i64 ((a.length : Int) + (b.length : Int))) (.int .i64 ((a.length : Int) + (b.length : Int)))).run Tryz.prog W = .ok (.slice (some ⟨W.heap.size, 0, none⟩) (a.length + b.length) (a.length + b.length)) (W.alloc (.cells (madeCells #[.int .u64 0] (a.length + b.length)) 137)) := by
  intro W
  exact Go.run_make_row' (P := Tryz.prog) 235 137 (.int .u64 0) 8 Tryz.underlying235 info64 rfl .i64 .i64 (a.length + b.length) (by omega) (by omega) W
 obtain ⟨ga, ca, rfl, hca⟩ := hva
 obtain ⟨gb, cb, rfl, hcb⟩ := hvb
 have hcaH := lh hca
 have hcbH := lh hcb
 have haH := lh ha
 have hbH := lh hb
 clear ha hb hca hcb
 go_enter Tryz.func177, Tryz.ntmps177
 go_wp2_with fail
 have hst : TimR w (w.alloc (.cells (madeCells #[.int .u64 0] (a.length + b.length)) 137)) a b 0 0 0 := ⟨_, by rw [heap_alloc_at, made_nc], (Tch.refl _ _).alloc _, Tim.start a b⟩
 replace hst := lh hst
 clear hmk
 go_loopg [6] a.length (fun g i W => ∃ n : Nat, g = a.length - n /\ n <= a.length /\ i = .int .i64 n /\ TimR w W a b n 0 0)
 case atStart => exact ⟨0, rfl, by omega, rfl, hst.out⟩
 case round =>
  clear hst
  obtain ⟨n, hg, hn, rfl, hR⟩ := hrel
  subst hg
  by_cases hnl : n < a.length
  . have hni : (n : Int) < (a.length : Int) := by omega
    replace hR := lh hR
    go_wp2_with fail
    go_loopg [7, 8] b.length (fun g cc jj W => ∃ m c : Nat, g = b.length - m /\ m <= b.length /\ cc = .int .u64 c /\ jj = .int .i64 m /\ TimR w W a b n m c)
    case atStart => exact ⟨0, 0, rfl, by omega, rfl, rfl, hR.out⟩
    case round =>
     clear hR
     obtain ⟨m, c, hg, hm, rfl, rfl, o, ho, ht, hT⟩ := hrel
     subst hg
     have hlo := hT.len
     by_cases hml : m < b.length
     . have hmi : (m : Int) < (b.length : Int) := by omega
       have hc1 : wr.cell? ⟨w.heap.size, n + m, none⟩ = some (.int .u64 ((o.getD (n + m) 0 : Nat) : Int)) := by rw [cell_of ho, nc_get _ _ (by omega)]
       have hc2 := ht.cell (hcaH.out n hnl) (fun e => e)
       have hc3 := ht.cell (hcbH.out m hml) (fun e => e)
       have hfr := fr_of ho
       have hs1 := hT.small (n + m)
       have hs2 := haH.out n
       have hs3 := hbH.out m
       have hs4 := hT.carry
       have hnx := fun v q hv hq => timR_step (v := v) (q := q) ho ht hT hnl hml hs2 hs3 hv hq
       replace hnx := lh hnx
       replace ho := lh ho
       replace ht := lh ht
       clear hT
       generalize o.getD (n + m) 0 = oo at *
       generalize a.getD n 0 = aa at *
       generalize b.getD m 0 = bb at *
       have hp : aa * bb <= 65535 * 65535 := Nat.mul_le_mul (by omega) (by omega)
       have hpi : (aa : Int) * (bb : Int) = ((aa * bb : Nat) : Int) := (Int.natCast_mul aa bb).symm
       generalize aa * bb = pp at *
       have hpp : (pp : Int) <= 4294836225 := by omega
       have ho1 : (oo : Int) < 65536 := by omega
       have ho4 : (c : Int) < 65536 := by omega
       go_wp2_with fail
       go_region
       go_wp2_with fail
       obtain ⟨c', hc', hR'⟩ := hnx.out (((oo : Int) + pp + c) % 65536) (((oo : Int) + pp + c) / 65536) (by omega) (by omega)
       rw [hc']
       go_roundg (b.length - (m + 1))
       case measure => omega
       case rel => exact ⟨m + 1, c', rfl, by omega, rfl, by go_num, hR'⟩
     . have hme : m = b.length := by omega
       subst hme
       have hmi : ¬ (b.length : Int) < (b.length : Int) := by omega
       have hc1 : wr.cell? ⟨w.heap.size, n + b.length, none⟩ = some (.int .u64 ((o.getD (n + b.length) 0 : Nat) : Int)) := by rw [cell_of ho, nc_get _ _ (by omega)]
       have hfr := fr_of ho
       have hs1 := hT.small (n + b.length)
       have hs4 := hT.carry
       have hnx := fun v hv => timR_row (v := v) ho ht hT hnl hv
       replace hnx := lh hnx
       clear ho ht hT
       generalize o.getD (n + b.length) 0 = oo at *
       have ho1 : (oo : Int) < 65536 := by omega
       have ho4 : (c : Int) < 65536 := by omega
       go_wp2_with fail
       go_roundg (a.length - (n + 1))
       case measure => omega
       case rel => exact ⟨n + 1, rfl, by omega, by go_num, hnx.out _ (by omega)⟩
  . have hne : n = a.length := by omega
    subst hne
    have hfin := lh (timR_done hR)
    clear hR
    go_wp2_with fail
    go_ret
    exact hfin.out
end Go.Proofs.YtbiioaggilaebaaGreatDoor.Ref
namespace Go.Proofs.YtbiioaggilaebaaGreatDoor.CardW
open Go
noncomputable def held (P : Program) (os : Os) (g : Nat) (v : Value) : World :=
 let w0 := World.holding P os ⟨#[], #[], []⟩
 { w0 with heap := w0.heap.modify g fun
  | .cells _ t fr => .cells #[v] t fr
  | o => o }
noncomputable def laidH (P : Program) (os : Os) (g : Nat) (v : Value) (laid : List (String × DataW Unit)) : World := (held P os g v).layVars P laid
theorem laidH_os (P : Program) (os : Os) (g : Nat) (v : Value) (laid : List (String × DataW Unit)) : (laidH P os g v laid).os = os := World.layVars_os _ _ _
theorem laidMet_laidH {P : Program} {w0 : World} {laid : List (String × DataW Unit)} (args : Array Value)
 (hf : w0.layFits P laid [] = true) (hi : w0.layIfaces P laid (w0.layVars P laid) = true) :
 laidMet P laid ((w0.layVars P laid).forCall (fun _ _ => 0) ⟨#[], args, []⟩).memory := by
 have e1 : (laid.filter fun x => (laid.map (·.1)).contains x.1) = laid := List.filter_eq_self.2 fun x hx => List.contains_iff_mem.2 (List.mem_map.2 ⟨x, hx, rfl⟩)
 have e2 : (laid.filter fun x => !(laid.map (·.1)).contains x.1) = [] := List.filter_eq_nil_iff.2 fun x hx => by rw [List.contains_iff_mem.2 (List.mem_map.2 ⟨x, hx, rfl⟩)]; simp
 have h : laidMet P laid (w0.layVars P laid) := laidMet_layVars (w0 := w0) (laid.map (·.1)) [] (by rw [e1]) (by rw [e1]; exact hf) (by rw [e1]; exact hi) (by rw [e2]; exact LaidIn.none)
 exact h.of_heap (by simp [World.memory, World.forCall, Input.heap])
theorem et : Tryz.prog.globalNamed "errors.errorType" = some 0 := by kernel_rfl
theorem rt : (Tryz.prog.cutTypes.find? (·.1 == "internal/reflectlite.rtype")).map (·.2) = some 154 := by kernel_rfl
theorem oneRow : ((List.range (398 - 100)).filter fun t => Tryz.prog.rowNamed t [101, 114, 114, 111, 114]) = [29] := by kernel_rfl
theorem size : Tryz.prog.types.size = 398 - 100 := by kernel_rfl
theorem errT {W : World} {laid : List (String × DataW Unit)} (hm : ("errors.errorType", .iface "internal/reflectlite.rtype" (.agg [.ptr (.lit (.string [101, 114, 114, 111, 114]))])) ∈ laid) (h : laidMetH Tryz.prog laid W) : Err.ErrT W := by
 have hx : handlesMet Tryz.prog (laid.filter fun x => x.2.handleName?.isSome) W := by
  have hin : ("errors.errorType", .iface "internal/reflectlite.rtype" (.agg [.ptr (.lit (.string [101, 114, 114, 111, 114]))])) ∈ laid.filter fun x => x.2.handleName?.isSome := List.mem_filter.2 ⟨hm, rfl⟩
  unfold laidMetH at h
  generalize (laid.filter fun x => x.2.handleName?.isSome) = fl at h hin
  cases fl with
  | nil => cases hin
  | cons a r => exact h.2
 obtain ⟨name, u, ty, e1, e2, e3, e4, e5⟩ := hx _ (List.mem_filter.2 ⟨hm, rfl⟩)
 have en : name = [101, 114, 114, 111, 114] := (Option.some.inj e1).symm
 subst en
 obtain rfl := Option.some.inj (rt.symm.trans e2)
 have hm : ty ∈ (List.range (398 - 100)).filter fun t => Tryz.prog.rowNamed t [101, 114, 114, 111, 114] := List.mem_filter.2 ⟨List.mem_range.2 (by rw [<- size]; exact e3), e4⟩
 rw [oneRow] at hm
 obtain rfl := List.mem_singleton.1 hm
 have hh : typeHandle Tryz.prog 29 = .pointer (some ⟨9, 29, none⟩) := by kernel_rfl
 rw [hh] at e5
 unfold Err.ErrT
 simpa using World.var?_cell et e5 0
end Go.Proofs.YtbiioaggilaebaaGreatDoor.CardW
namespace Go.Proofs.YtbiioaggilaebaaGreatDoor.Sha
open Go.RowKit B
def K : List W := [1116352408#32, 1899447441#32, 3049323471#32, 3921009573#32, 961987163#32, 1508970993#32, 2453635748#32, 2870763221#32, 3624381080#32, 310598401#32, 607225278#32, 1426881987#32, 1925078388#32, 2162078206#32, 2614888103#32, 3248222580#32, 3835390401#32, 4022224774#32, 264347078#32, 604807628#32, 770255983#32, 1249150122#32, 1555081692#32, 1996064986#32, 2554220882#32, 2821834349#32, 2952996808#32, 3210313671#32, 3336571891#32, 3584528711#32, 113926993#32, 338241895#32, 666307205#32, 773529912#32, 1294757372#32, 1396182291#32, 1695183700#32, 1986661051#32, 2177026350#32, 2456956037#32, 2730485921#32, 2820302411#32, 3259730800#32, 3345764771#32, 3516065817#32, 3600352804#32, 4094571909#32, 275423344#32, 430227734#32, 506948616#32, 659060556#32, 883997877#32, 958139571#32, 1322822218#32, 1537002063#32, 1747873779#32, 1955562222#32, 2024104815#32, 2227730452#32, 2361852424#32, 2428436474#32, 2756734187#32, 3204031479#32, 3329325298#32]
def H0 : List W := [1779033703#32, 3144134277#32, 1013904242#32, 2773480762#32, 1359893119#32, 2600822924#32, 528734635#32, 1541459225#32]
theorem kidx (W : World) : ∀ t, t < 64 -> (Instr.index 204 (.agg #[Value.int .u32 1116352408, Value.int .u32 1899447441, Value.int .u32 3049323471, Value.int .u32 3921009573, Value.int .u32 961987163, Value.int .u32 1508970993, Value.int .u32 2453635748, Value.int .u32 2870763221, Value.int .u32 3624381080, Value.int .u32 310598401, Value.int .u32 607225278, Value.int .u32 1426881987, Value.int .u32 1925078388, Value.int .u32 2162078206, Value.int .u32 2614888103, Value.int .u32 3248222580, Value.int .u32 3835390401, Value.int .u32 4022224774, Value.int .u32 264347078, Value.int .u32 604807628, Value.int .u32 770255983, Value.int .u32 1249150122, Value.int .u32 1555081692, Value.int .u32 1996064986, Value.int .u32 2554220882, Value.int .u32 2821834349, Value.int .u32 2952996808, Value.int .u32 3210313671, Value.int .u32 3336571891, Value.int .u32 3584528711, Value.int .u32 113926993, Value.int .u32 338241895, Value.int .u32 666307205, Value.int .u32 773529912, Value.int .u32 1294757372, Value.int .u32 1396182291, Value.int .u32 1695183700, Value.int .u32 1986661051, Value.int .u32 2177026350, Value.int .u32 2456956037, Value.int .u32 2730485921, Value.int .u32 2820302411, Value.int .u32 3259730800, Value.int .u32 3345764771, Value.int .u32 3516065817, Value.int .u32 3600352804, Value.int .u32 4094571909, Value.int .u32 275423344, Value.int .u32 430227734, Value.int .u32 506948616, Value.int .u32 659060556, Value.int .u32 883997877, Value.int .u32 958139571, Value.int .u32 1322822218, Value.int .u32 1537002063, Value.int .u32 1747873779, Value.int .u32 1955562222, Value.int .u32 2024104815, Value.int .u32 2227730452, Value.int .u32 2361852424, Value.int .u32 2428436474, Value.int .u32 2756734187, Value.int .u32 3204031479, Value.int .u32 3329325298]) (.int .i64 (t : Nat))).run Tryz.prog W = .ok (.int .u32 (nv (K.getD t 0))) W
 | 0, _ => by kernel_rfl
 | 1, _ => by kernel_rfl
 | 2, _ => by kernel_rfl
 | 3, _ => by kernel_rfl
 | 4, _ => by kernel_rfl
 | 5, _ => by kernel_rfl
 | 6, _ => by kernel_rfl
 | 7, _ => by kernel_rfl
 | 8, _ => by kernel_rfl
 | 9, _ => by kernel_rfl
 | 10, _ => by kernel_rfl
 | 11, _ => by kernel_rfl
 | 12, _ => by kernel_rfl
 | 13, _ => by kernel_rfl
 | 14, _ => by kernel_rfl
 | 15, _ => by kernel_rfl
 | 16, _ => by kernel_rfl
 | 17, _ => by kernel_rfl
 | 18, _ => by kernel_rfl
 | 19, _ => by kernel_rfl
 | 20, _ => by kernel_rfl
 | 21, _ => by kernel_rfl
 | 22, _ => by kernel_rfl
 | 23, _ => by kernel_rfl
 | 24, _ => by kernel_rfl
 | 25, _ => by kernel_rfl
 | 26, _ => by kernel_rfl
 | 27, _ => by kernel_rfl
 | 28, _ => by kernel_rfl
 | 29, _ => by kernel_rfl
 | 30, _ => by kernel_rfl
 | 31, _ => by kernel_rfl
 | 32, _ => by kernel_rfl
 | 33, _ => by kernel_rfl
 | 34, _ => by kernel_rfl
 | 35, _ => by kernel_rfl
 | 36, _ => by kernel_rfl
 | 37, _ => by kernel_rfl
 | 38, _ => by kernel_rfl
 | 39, _ => by kernel_rfl
 | 40, _ => by kernel_rfl
 | 41, _ => by kernel_rfl
 | 42, _ => by kernel_rfl
 | 43, _ => by kernel_rfl
 | 44, _ => by kernel_rfl
 | 45, _ => by kernel_rfl
 | 46, _ => by kernel_rfl
 | 47, _ => by kernel_rfl
 | 48, _ => by kernel_rfl
 | 49, _ => by kernel_rfl
 | 50, _ => by kernel_rfl
 | 51, _ => by kernel_rfl
 | 52, _ => by kernel_rfl
 | 53, _ => by kernel_rfl
 | 54, _ => by kernel_rfl
 | 55, _ => by kernel_rfl
 | 56, _ => by kernel_rfl
 | 57, _ => by kernel_rfl
 | 58, _ => by kernel_rfl
 | 59, _ => by kernel_rfl
 | 60, _ => by kernel_rfl
 | 61, _ => by kernel_rfl
 | 62, _ => by kernel_rfl
 | 63, _ => by kernel_rfl
 | n + 64, h => absurd h (by omega)
theorem k_any (t : Nat) (ht : t < 64) (w : World) :
 Calls Tryz.prog 142 #[.int .i64 t] w fun e w' => e = .returned (.int .u32 (nv (K.getD t 0))) /\ w = w' := by
 have hk := fun W => kidx W t ht
 generalize nv (K.getD t 0) = y at *
 go_enter Tryz.func142, Tryz.ntmps142
 go_wp2_with fail
 go_ret
 exact ⟨rfl, rfl⟩
end Go.Proofs.YtbiioaggilaebaaGreatDoor.Sha
namespace Go.Proofs.YtbiioaggilaebaaGreatDoor.Tm
open Go Go.RowKit B Bld
def Tab (w : World) : Prop := Lib.TabIs Tryz.prog w "internal/strconv.uint64pow10" .u64 Lib.pow10Tab
theorem gtab : Tryz.prog.globalNamed "internal/strconv.uint64pow10" = some 2 := by kernel_rfl
theorem Tab.below {w w' : World} {B : Nat} (h : Tab w) (hb : Below B w w') (hB : w.heap.size <= B) : Tab w' := Joins.tab_stays gtab h hb hB
theorem Tab.keep {w w' : World} {B : Nat} (h : Tab w) (hb : Below B w w') (hB : 2 < B) : Tab w' := by
 unfold Tab Lib.TabIs World.var? at *
 rw [gtab] at h ⊢
 simp only [Option.bind_some] at h ⊢
 rw [hb.block _ hB]
 exact h
theorem grow_below (w : World) (k : Nat) (os : Array Obj) : Below w.heap.size w (Sort.grow (w.drewN k) os) := by
 refine ⟨rfl, rfl, rfl, ?_, fun j hj => ?_⟩
 . show w.heap.size <= (w.heap ++ os).size
   simp
 . show (w.heap ++ os)[j]? = _
   rw [Array.getElem?_append_left hj]
theorem itoa_any (n : Nat) (hn : n <= 9223372036854775807) (w : World) (h : Tab w) :
 Calls Tryz.prog 77 #[.int .i64 n] w fun e w' => e = .returned (.string ⟨(Lib.decDigits n).toArray⟩) /\ Below w.heap.size w w' := by
 refine (Tryz.strconv_Itoa n (by omega) (by omega) w h).mono ?_
 rintro e w' ⟨rfl, k, os, rfl⟩
 exact ⟨by rw [Lib.itoa_nonneg], grow_below w k os⟩
mutual
def FV (B : Nat) (w : World) : F -> List Value -> Prop
 | .mk b t l, cs => ∃ A c, cs = [.bool b, .string ⟨t.toArray⟩, .slice A l.length c] /\ l.length <= c /\ l.length <= 140737488355328 /\ FVs B w A 0 l
def FVs (B : Nat) (w : World) (A : Option Addr) : Nat -> List F -> Prop
 | _, [] => True
 | i, f :: l => (∃ b o c0 c1 c2, A = some ⟨b, o, none⟩ /\ b < B /\ w.cell? ⟨b, o + i * 3, none⟩ = some c0 /\ w.cell? ⟨b, o + i * 3 + 1, none⟩ = some c1 /\ w.cell? ⟨b, o + i * 3 + 2, none⟩ = some c2 /\ FV B w f [c0, c1, c2]) /\ FVs B w A (i + 1) l
end
mutual
theorem FV.below {B : Nat} {w w' : World} (hb : Below B w w') : ∀ (f : F) (cs : List Value), FV B w f cs -> FV B w' f cs
 | .mk b t l, cs, h => by
  unfold FV at h ⊢
  obtain ⟨A, c, h1, h2, h3, h4⟩ := h
  exact ⟨A, c, h1, h2, h3, FVs.below hb l A 0 h4⟩
theorem FVs.below {B : Nat} {w w' : World} (hb : Below B w w') : ∀ (l : List F) (A : Option Addr) (i : Nat), FVs B w A i l -> FVs B w' A i l
 | [], _, _, _ => by unfold FVs; trivial
 | f :: l, A, i, h => by
  unfold FVs at h ⊢
  obtain ⟨⟨b, o, c0, c1, c2, h1, h2, h3, h4, h5, h6⟩, h7⟩ := h
  exact ⟨⟨b, o, c0, c1, c2, h1, h2, (hb.cell (p := ⟨b, _, none⟩) h2).trans h3, (hb.cell (p := ⟨b, _, none⟩) h2).trans h4, (hb.cell (p := ⟨b, _, none⟩) h2).trans h5, FV.below hb f _ h6⟩, FVs.below hb l A (i + 1) h7⟩
end
theorem FVs.get {B : Nat} {w : World} {A : Option Addr} : ∀ {l : List F} {i : Nat}, FVs B w A i l -> ∀ (j : Nat) (hj : j < l.length),
 ∃ b o c0 c1 c2, A = some ⟨b, o, none⟩ /\ b < B /\ w.cell? ⟨b, o + (i + j) * 3, none⟩ = some c0 /\ w.cell? ⟨b, o + (i + j) * 3 + 1, none⟩ = some c1 /\ w.cell? ⟨b, o + (i + j) * 3 + 2, none⟩ = some c2 /\ FV B w l[j] [c0, c1, c2]
 | [], _, _, j, hj => absurd hj (by simp)
 | f :: l, i, h, j, hj => by
  unfold FVs at h
  cases j with
  | zero => exact h.1
  | succ j =>
   have := FVs.get h.2 j (by simpa using hj)
   rwa [show i + 1 + j = i + (j + 1) from by omega] at this
theorem wat_alloc {B g : Nat} {l : List UInt8} {e d : Value} {w : World} (h : WAt B g l e d w) (o : Obj) : WAt B g l e d (w.alloc o) := by
 obtain ⟨h1, p, v, h2, h3, h4⟩ := h
 exact ⟨h1, p, v, h2, by rw [heap_alloc_lt _ _ _ (heap_lt h3)]; exact h3, h4.alloc _⟩
theorem wat_drew {B g : Nat} {l : List UInt8} {e d : Value} {w : World} (h : WAt B g l e d w) : WAt B g l e d w.drew := h
theorem wat_tch {B g : Nat} {l : List UInt8} {e d : Value} {w w' : World} (h : WAt B g l e d w) (k : Below w.heap.size w w') : WAt B g l e d w' := by
 obtain ⟨h1, p, v, h2, h3, h4⟩ := h
 exact ⟨h1, p, v, h2, (Tch.of_new (S := fun _ => False) k).heap h3 (fun e => e), own_keep h4 (Tch.of_new k)⟩
theorem box_keep {w2 w3 : World} {g k : Nat} {cs : Array Value} {ty : TypeId} {fz : Nat × Nat} (h2 : w2.heap[k]? = some (.cells cs ty fz)) (ho : Oth g w2 w3) (hne : k ≠ g) (hty : ty ≠ 5) (i : Nat) : w3.cell? ⟨k, i, none⟩ = cs[i]? := cell_of (ho k cs ty fz hne hty h2) i
theorem put_text (B g : Nat) (t : List UInt8) (e d : Value) (s : ByteArray) (deep : Nat) (A : Option Addr) (c : Nat) (w : World) (h : WAt B g t e d w) (htab : Tab w) (hdeep : deep <= 8)
 (hlen : t.length + (txt s.data.toList).bytes.length <= 65536) (hBw : B <= w.heap.size) :
 Calls Tryz.prog 78 #[.pointer (some ⟨g, 0, none⟩), .agg #[.bool false, .string s, .slice A 0 c], .int .i64 deep] w
  fun ev w' => ev = .returned (.tuple #[]) /\ WAt B g (t ++ (txt s.data.toList).bytes) e d w' /\ Below B w w' /\ Oth g w w' := by
 have hsl : s.data.toList.length = s.size := by rw [Array.length_toList]; rfl
 have hbl : (txt s.data.toList).bytes.length = (Lib.decDigits s.size).length + 1 + s.size := by
  unfold txt F.bytes
  simp [hsl]; omega
 have hbe : (txt s.data.toList).bytes = (⟨(Lib.decDigits s.size).toArray⟩ ++ ⟨#[58]⟩ ++ s : ByteArray).data.toList := by
  unfold txt F.bytes
  rw [hsl]
  simp [ByteArray.data_append]
 have hdi : ¬ (8 : Int) < (deep : Int) := by omega
 have hti : decide ((65536 : Int) < (t.length : Int)) = false := by simp; omega
 have hNs : (⟨(Lib.decDigits s.size).toArray⟩ : ByteArray).size = (Lib.decDigits s.size).length := by show (Lib.decDigits s.size).toArray.size = _; simp
 obtain ⟨w0, hw0⟩ : ∃ w0, w0 = w.alloc (.cells #[.bool false, .string s, .slice A 0 c] 74) := ⟨_, rfl⟩
 have hbel : Below B w w0 := by rw [hw0]; exact (Below.refl _ _).alloc hBw _
 have hsz : w.heap.size < w0.heap.size := by rw [hw0]; simp
 have hb0 : w0.heap[w.heap.size]? = some (.cells #[.bool false, .string s, .slice A 0 c] 74 (0, 0)) := by rw [hw0]; exact heap_alloc_at _ _
 have CL := lh (len_any B g t e d w0 (by rw [hw0]; exact wat_alloc h _))
 have CI := lh (itoa_any s.size (by omega) w0.drew (by show Tab w0; rw [hw0]; exact htab.below ((Below.refl _ _).alloc (Nat.le_refl _) _) (Nat.le_refl _)))
 have hwa : WAt B g t e d w0 := by rw [hw0]; exact wat_alloc h _
 rw [hbl] at hlen
 have CS := lh (fun (N : ByteArray) W (hN : N.size <= 65536) (hW : Below w0.drew.heap.size w0.drew W) => string_any B g t e d (N ++ ⟨#[58]⟩ ++ s) W (wat_tch (wat_drew hwa) hW) (by rw [ByteArray.size_append, ByteArray.size_append]; show t.length + (N.size + 1 + s.size) <= _; omega) (by have := hW.size; have : w0.drew.heap.size = w0.heap.size := rfl; omega))
 rw [hbe]
 generalize (⟨(Lib.decDigits s.size).toArray⟩ : ByteArray) = N at *
 have hcat1 : (9223372036854775807 < N.size + 1) = False := eq_false (by omega)
 have hcat2 : (9223372036854775807 < N.size + 1 + s.size) = False := eq_false (by omega)
 have hNb := lh (show N.size <= 65536 by omega)
 have hbelH := lh hbel
 have hothH := lh (show Oth g w w0 by rw [hw0]; exact Oth.alloc _ _ _)
 have hneH := lh (show w.heap.size ≠ g by obtain ⟨_, p, v, _, hg, _⟩ := h; have := heap_lt hg; omega)
 have hb0H := lh hb0
 have hszH := lh hsz
 have hBwH := lh hBw
 have hc0 : w0.cell? ⟨w.heap.size, 0, none⟩ = some (.bool false) := by rw [cell_of hb0]; rfl
 have hc1 : w0.cell? ⟨w.heap.size, 1, none⟩ = some (.string s) := by rw [cell_of hb0]; rfl
 have hc2 : w0.cell? ⟨w.heap.size, 2, none⟩ = some (.slice A 0 c) := by rw [cell_of hb0]; rfl
 clear hbe hbl hNs hsl hlen hwa hb0 hbel hsz hBw h htab
 go_enter Tryz.func78, Tryz.ntmps78
 go_wp2_with fail
 rw [<- hw0]
 replace hw0 := lh hw0
 refine (CL.out).mono ?_
 rintro ev w1 ⟨rfl, rfl⟩
 go_wp2_with fail
 go_region_held3 (fun W => W.cell? ⟨w.heap.size, 1, none⟩ = some (.string s)) (first | go_keep | (exact (cell_of hbx.out 1).trans rfl) | (exact (box_keep hbx.out hoth3.out hneH.out (by decide) 1).trans rfl))
  ((first
   | (go_at_call 77; refine (CI.out).mono ?_; rintro ev w2 ⟨rfl, hb1⟩; have hb1H := lh hb1; have hbx := lh ((hb1.block _ hszH.out).trans hb0H.out))
   | (go_at_call 122; refine (CS.out N _ hNb.out (by exact hb1)).mono ?_; rintro ev w3 ⟨rfl, hwat, hb3, hoth3⟩; replace hoth3 := lh hoth3; replace hwat := lh hwat; replace hb3 := lh hb3)))
 all_goals (try go_wp2_with fail)
 go_end0
 refine ⟨rfl, hwat.out, (hbelH.out.trans ?_).trans hb3.out, (hothH.out.trans ?_).trans hoth3.out⟩
 . have h := hb1H.out
   exact (Below.drew (Below.refl B w1)).trans (Below.mono (B' := B) (w := w1.drew) h (Nat.le_of_lt (Nat.lt_of_le_of_lt hBwH.out hszH.out)))
 . exact Oth.below (w := w1.drew) hb1H.out
theorem bytess_append : ∀ (a b : List F), bytess (a ++ b) = bytess a ++ bytess b
 | [], b => rfl
 | f :: a, b => by rw [List.cons_append, bytess, bytess, bytess_append a b, List.append_assoc]
theorem bytess_take (l : List F) (k : Nat) (h : k < l.length) : bytess (l.take (k + 1)) = bytess (l.take k) ++ (l[k]).bytes := by
 rw [List.take_add_one, List.getElem?_eq_getElem h, Option.toList_some, bytess_append, bytess, bytess, List.append_nil]
theorem bytess_le (l : List F) (k : Nat) : (bytess (l.take k)).length <= (bytess l).length := by
 have := bytess_append (l.take k) (l.drop k)
 rw [List.take_append_drop] at this
 rw [this, List.length_append]
 omega
theorem rights_get : ∀ {l : List F}, rights l = true -> ∀ (k : Nat) (h : k < l.length), (l[k]).right = true
 | [], _, k, h => absurd h (by simp)
 | f :: l, hr, k, h => by
  unfold rights at hr
  simp only [Bool.and_eq_true] at hr
  cases k with
  | zero => exact hr.1
  | succ k => exact rights_get hr.2 k (by simpa using h)
theorem depths_get : ∀ {l : List F} (k : Nat) (h : k < l.length), (l[k]).depth <= depths l
 | [], k, h => absurd h (by simp)
 | f :: l, k, h => by
  unfold depths
  cases k with
  | zero => exact Nat.le_max_left _ _
  | succ k => exact Nat.le_trans (depths_get k (by simpa using h)) (Nat.le_max_right _ _)
def PutPost (B g : Nat) (t : List UInt8) (e d : Value) (w : World) (ev : Ending) (w' : World) : Prop := ev = .returned (.tuple #[]) /\ WAt B g t e d w' /\ Below B w w' /\ Oth g w w'
def Puts (B g : Nat) (e d : Value) (f : F) : Prop := ∀ (t : List UInt8) (deep : Nat) (c0 c1 c2 : Value) (w : World), FV B w f [c0, c1, c2] -> WAt B g t e d w -> Tab w -> B <= w.heap.size -> 2 < B -> f.depth + deep <= 8 -> t.length + f.bytes.length <= 65536 ->
 Calls Tryz.prog 78 #[.pointer (some ⟨g, 0, none⟩), .agg #[c0, c1, c2], .int .i64 deep] w (PutPost B g (t ++ f.bytes) e d w)
theorem put_list (B g : Nat) (e d : Value) (l : List F) (ih : ∀ (k : Nat) (h : k < l.length), Puts B g e d l[k]) (t : List UInt8) (deep : Nat) (A : Option Addr) (c : Nat) (w : World) (hl : l.length <= 140737488355328) (hfs : FVs B w A 0 l) (h : WAt B g t e d w) (htab : Tab w)
 (hBw : B <= w.heap.size) (hgB : 2 < B) (hdeep : depths l + 1 + deep <= 8) (hlen : t.length + ((bytess l).length + 2) <= 65536) :
 Calls Tryz.prog 78 #[.pointer (some ⟨g, 0, none⟩), .agg #[.bool true, .string ⟨#[]⟩, .slice A l.length c], .int .i64 deep] w (PutPost B g (t ++ 40 :: (bytess l ++ [41])) e d w) := by
 have hdi : ¬ (8 : Int) < (deep : Int) := by omega
 have hdi1 : ¬ (8 : Int) < (deep : Int) + 1 := by omega
 have hd8 : (deep : Int) <= 8 := by omega
 have hti : decide ((65536 : Int) < (t.length : Int)) = false := by simp; omega
 obtain ⟨w0, hw0⟩ : ∃ w0, w0 = w.alloc (.cells #[.bool true, .string ⟨#[]⟩, .slice A l.length c] 74) := ⟨_, rfl⟩
 have hbel := lh (show Below B w w0 by rw [hw0]; exact (Below.refl _ _).alloc hBw _)
 have hoth := lh (show Oth g w w0 by rw [hw0]; exact Oth.alloc _ _ _)
 have hwa : WAt B g t e d w0 := by rw [hw0]; exact wat_alloc h _
 have hsz : B <= w0.heap.size := by rw [hw0]; simp; omega
 have CL := lh (len_any B g t e d w0 hwa)
 have C40 : Calls Tryz.prog 123 #[.pointer (some ⟨g, 0, none⟩), .int .u8 40] w0 fun ev w' => ev = .returned .nilIface /\ WAt B g (t ++ [40]) e d w' /\ Below B w0 w' /\ Oth g w0 w' := byte_any B g t e d 40 w0 hwa (by omega) hsz
 have C40H := lh C40
 have hb0 : w0.heap[w.heap.size]? = some (.cells #[.bool true, .string ⟨#[]⟩, .slice A l.length c] 74 (0, 0)) := by rw [hw0]; exact heap_alloc_at _ _
 have hb0H := lh hb0
 have hneH := lh (show w.heap.size ≠ g by obtain ⟨_, p, v, _, hg, _⟩ := h; have := heap_lt hg; omega)
 have htabH := lh htab
 have hfsH := lh hfs
 have hc0 : w0.cell? ⟨w.heap.size, 0, none⟩ = some (.bool true) := by rw [cell_of hb0]; rfl
 have hc1 : w0.cell? ⟨w.heap.size, 1, none⟩ = some (.string ⟨#[]⟩) := by rw [cell_of hb0]; rfl
 have hc2 : w0.cell? ⟨w.heap.size, 2, none⟩ = some (.slice A l.length c) := by rw [cell_of hb0]; rfl
 clear hwa hb0 h htab hfs C40
 go_enter Tryz.func78, Tryz.ntmps78
 go_wp2_with fail
 rw [<- hw0]
 replace hw0 := lh hw0
 refine (CL.out).mono ?_
 rintro ev w1 ⟨rfl, rfl⟩
 go_wp2_with fail
 refine (C40H.out).mono ?_
 rintro ev w2 ⟨rfl, hw2, hb2, ho2⟩
 have hbx := lh (ho2 _ _ _ _ hneH.out (by decide) hb0H.out)
 have hx2 : w2.cell? ⟨w.heap.size, 2, none⟩ = some (.slice A l.length c) := by rw [cell_of hbx.out]; rfl
 replace hbel := lh (hbel.out.trans hb2)
 replace hoth := lh (hoth.out.trans ho2)
 replace hw2 := lh hw2
 clear hb2 ho2 CL C40H
 go_wp2_with fail
 obtain ⟨n, hn⟩ : ∃ n, n = l.length := ⟨_, rfl⟩
 rw [<- hn] at hl hx2 ⊢
 replace hn := lh hn
 go_loopg [80] n (fun g' i W => ∃ k : Nat, g' = n - k /\ k <= n /\ i = .int .i64 k /\ WAt B g (t ++ [40] ++ bytess (l.take k)) e d W /\ Below B w W /\ Oth g w W)
 case atStart => exact ⟨0, rfl, by omega, rfl, by simpa [bytess] using hw2.out, hbel.out, hoth.out⟩
 case round =>
  clear hw2 hbel hoth hx2 hbx
  obtain ⟨k, hg', hk, rfl, hwk, hbk, hok⟩ := hrel
  subst hg'
  by_cases hkn : k < n
  . have hki : (k : Int) < (n : Int) := by omega
    have hfk := FVs.get (FVs.below hbk l A 0 hfsH.out) k (by rw [<- hn.out]; exact hkn)
    rw [Nat.zero_add] at hfk
    obtain ⟨b, o, c0, c1, c2, hA, hbB, h0, h1, h2, hf⟩ := hfk
    subst hA
    have ihk := ih k (by rw [<- hn.out]; exact hkn)
    obtain ⟨F', hF'⟩ : ∃ F', F' = l[k]'(by rw [<- hn.out]; exact hkn) := ⟨_, rfl⟩
    rw [<- hF'] at hf ihk
    have hfr : F'.right = true -> True := fun _ => trivial
    replace hF' := lh hF'
    obtain ⟨fb, ft, fl⟩ := F'
    have hf2 := hf
    unfold FV at hf2
    obtain ⟨A2, cc, hcs, _⟩ := hf2
    simp only [List.cons.injEq, and_true] at hcs
    obtain ⟨rfl, rfl, rfl⟩ := hcs
    generalize hfn : fl.length = fn at *
    replace hfn := lh hfn
    have hwkH := lh hwk
    have ihH := lh ihk
    have hbkH := lh hbk
    have hokH := lh hok
    have hfH := lh hf
    clear hwk hbk hok hf ihk hfr
    have hdk : (F.mk fb ft fl).depth + (deep + 1) <= 8 := by
     have := depths_get (l := l) k (by rw [<- hn.out]; exact hkn)
     rw [<- hF'.out] at this
     omega
    have hbt := bytess_take l k (by rw [<- hn.out]; exact hkn)
    rw [<- hF'.out] at hbt
    have hlk : (t ++ [40] ++ bytess (l.take k)).length + (F.mk fb ft fl).bytes.length <= 65536 := by
     have h1 := bytess_le l (k + 1)
     rw [hbt, List.length_append] at h1
     rw [List.length_append, List.length_append, List.length_singleton]
     omega
    have CP := ihH.out (t ++ [40] ++ bytess (l.take k)) (deep + 1) (.bool fb) (.string ⟨ft.toArray⟩) (.slice A2 fn cc) (wr.alloc (.cells #[.bool fb, .string ⟨ft.toArray⟩, .slice A2 fn cc] 74))
     (FV.below ((Below.refl B wr).alloc (Nat.le_trans hBw hbkH.out.size) _) _ _ hfH.out) (wat_alloc hwkH.out _) (htabH.out.keep (hbkH.out.alloc (Nat.le_trans hBw hbkH.out.size) _) hgB) (by have := hbkH.out.size; simp; omega) hgB hdk hlk
    rw [show ((deep + 1 : Nat) : Int) = (deep : Int) + 1 from by omega] at CP
    replace CP := lh CP
    replace hbt := lh hbt
    clear hdk hlk
    go_wp2_with fail
    refine (CP.out).mono ?_
    rintro ev w3 ⟨rfl, hw3, hb3, ho3⟩
    replace hw3 := lh hw3
    replace hb3 := lh hb3
    replace ho3 := lh ho3
    go_wp2_with fail
    go_roundg (n - (k + 1))
    case measure => omega
    case rel => exact ⟨k + 1, rfl, by omega, by go_num, by rw [hbt.out, <- List.append_assoc]; exact hw3.out, (hbkH.out.alloc (Nat.le_trans hBw hbkH.out.size) _).trans hb3.out, (hokH.out.trans (Oth.alloc _ _ _)).trans ho3.out⟩
  . have hkn' : k = n := by omega
    subst hkn'
    have hki : ¬ (k : Int) < (k : Int) := by omega
    rw [List.take_of_length_le (by rw [<- hn.out]; exact Nat.le_refl _)] at hwk
    have C41 : Calls Tryz.prog 123 #[.pointer (some ⟨g, 0, none⟩), .int .u8 41] wr fun ev w' => ev = .returned .nilIface /\ WAt B g (t ++ [40] ++ bytess l ++ [41]) e d w' /\ Below B wr w' /\ Oth g wr w' := byte_any B g _ e d 41 wr hwk (by rw [List.length_append, List.length_append, List.length_singleton]; omega) (Nat.le_trans hBw hbk.size)
    replace C41 := lh C41
    have hbkH := lh hbk
    have hokH := lh hok
    clear hwk hbk hok
    go_wp2_with fail
    refine (C41.out).mono ?_
    rintro ev w3 ⟨rfl, hw3, hb3, ho3⟩
    replace hw3 := lh hw3
    replace hb3 := lh hb3
    replace ho3 := lh ho3
    go_wp2_with fail
    go_end0
    exact ⟨rfl, by simpa using hw3.out, hbkH.out.trans hb3.out, hokH.out.trans ho3.out⟩
theorem get_size {l : List F} (k : Nat) (h : k < l.length) : SizeOf.sizeOf l[k] < SizeOf.sizeOf l := List.sizeOf_lt_of_mem (List.getElem_mem h)
theorem put_any (B g : Nat) (e d : Value) : ∀ (n : Nat) (f : F), SizeOf.sizeOf f < n -> f.right = true -> Puts B g e d f := by
 intro n
 induction n with
 | zero => intro f h; exact absurd h (by omega)
 | succ n ih =>
  rintro ⟨b, x, l⟩ hsz hr t deep c0 c1 c2 w hf h htab hBw hgB hdeep hlen
  unfold FV at hf
  obtain ⟨A, c, hcs, hc, hll, hfs⟩ := hf
  simp only [List.cons.injEq, and_true] at hcs
  obtain ⟨rfl, rfl, rfl⟩ := hcs
  cases b with
  | true =>
   unfold F.right at hr
   simp only [Bool.and_eq_true] at hr
   have hx : x = [] := by simpa using hr.1
   subst hx
   unfold F.bytes F.depth at *
   have hb : (40 :: (bytess l ++ [41])).length = (bytess l).length + 2 := by simp
   rw [hb] at hlen
   refine put_list B g e d l (fun k hk => ih _ ?_ (rights_get hr.2 k hk)) t deep A c w hll hfs h htab hBw hgB hdeep hlen
   have := get_size k hk
   have h2 : SizeOf.sizeOf (F.mk true [] l) = 1 + SizeOf.sizeOf true + SizeOf.sizeOf ([] : List UInt8) + SizeOf.sizeOf l := by rw [F.mk.sizeOf_spec]
   omega
  | false =>
   unfold F.right at hr
   have hl0 : l = [] := by simpa using hr
   subst hl0
   have eF : (txt (⟨x.toArray⟩ : ByteArray).data.toList) = .mk false x [] := rfl
   have := put_text B g t e d ⟨x.toArray⟩ deep A c w h htab (by omega) (by rw [eF]; exact hlen) hBw
   rw [eF] at this
   exact this
end Go.Proofs.YtbiioaggilaebaaGreatDoor.Tm
