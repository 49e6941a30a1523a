/- What LawWireReads, LawWireWrites, LawWireSpoilt lean on, part g of 25: the texts ErrP, RefA, CardW, Bytes, ShaP, Lat, TmL, ErrB, Rd. -/
import Derived.Test.YtbefkoljcacpcaaGreatDoorTVf
import Derived.Test.YtbefkoljcacpcaaGreatDoorChecked
import Derived.WalkKit
import Derived.LaidEql
import Derived.Stop.Asserts
import Derived.RowKitTokens
import Derived.SizedLaws
import Derived.HandedShaped
import Derived.Test.YtbefkoljcacpcaaGreatDoorProg
import Derived.Deep.AppendLies
import Derived.Laws.IdiomStrings
import Derived.Laws.BytesArg
import Derived.KernelRfl
import Derived.Laws.BitsLemmas
import Derived.Laws.Bits64
import Derived.Laws.BitsAll
import Derived.Laws.BitsAllLaws
import Derived.Lib.IfaceEq
import Derived.Lib.Hide
import Derived.WalkSpells
import Derived.WalkLawsBesides
import Derived.Deep.DeepFit
import Derived.ProofKit
import Derived.SliceStrings
set_option linter.unusedVariables false
set_option linter.unusedSimpArgs false
namespace Go.Proofs.YtbefkoljcacpcaaGreatDoor.ErrP
open Go.RowKit Go.Extern.Stop Go.Stop Go.Extern
theorem R_valueOf27 (t : Addr) (w : World) : (ReflectliteValue.unpack (.iface 44 (.pointer (some t)))).run Tryz.prog w
    = .ok (.agg #[.pointer (some ⟨9, 44, none⟩), .pointer (some ⟨w.heap.size, 0, none⟩), .int .u64 150]) (w.alloc (.cells #[.pointer (some t)] 44)) := by kernel_rfl
theorem R_type27 (a : Addr) (w : World) : (ReflectliteValue.methodAny (ReflectliteValue.valueError "reflectlite.Value.Type" 0) (fun t _ _ _ => ReflectliteType.toType t) #[.agg #[.pointer (some ⟨9, 44, none⟩), .pointer (some a), .int .u64 150]]).run Tryz.prog w
    = .ok (.iface 118 (.agg #[.pointer (some ⟨9, 44, none⟩)])) w := by kernel_rfl
theorem R_methodKind (h : Value) (w : World) : (Go.method 341 118 (.agg #[h]) "Kind").run Tryz.prog w = .ok (148, h) w := by kernel_rfl
theorem R_kind27 (w : World) : ((ReflectliteType.abiMethod fun t => (fun a : Nat => Value.int IntKind.u8 (a : Int)) <$> Rtype.kind t) #[.pointer (some ⟨9, 44, none⟩)]).run Tryz.prog w = .ok (.int .u8 22) w := by kernel_rfl
theorem R_kind25 (w : World) : ((ReflectliteType.abiMethod fun t => (fun a : Nat => Value.int IntKind.u8 (a : Int)) <$> Rtype.kind t) #[.pointer (some ⟨9, 42, none⟩)]).run Tryz.prog w = .ok (.int .u8 22) w := by kernel_rfl
theorem rlm (z : Sem Value) (f : TypeId → Addr → Nat → Nat → Sem Value) (v : Value) :
    ReflectliteValue.method z f #[v] = (do match ← ReflectliteValue.parts v with | none => z | some (t, a, fl) => f t a fl (fl % 32)) := rfl
theorem R_parts27 (a : Addr) (w : World) : (ReflectliteValue.parts (.agg #[.pointer (some ⟨9, 44, none⟩), .pointer (some a), .int .u64 150])).run Tryz.prog w = .ok (some (44, a, 150)) w := by kernel_rfl
theorem R_isNil27 (a p : Addr) (W : World) (ha : W.cell? a = some (.pointer (some p))) :
    (ReflectliteValue.method (ReflectliteValue.valueError "reflectlite.Value.IsNil" 0) ReflectliteValue.isNil #[.agg #[.pointer (some ⟨9, 44, none⟩), .pointer (some a), .int .u64 150]]).run Tryz.prog W = .ok (.bool false) W := by
  rw [rlm]
  simp only [Sem.run_bind, R_parts27, Result.andThen]
  simp [ReflectliteValue.isNil, loadVar, isAgg, underlying, Tryz.underlying44, ha, Result.andThen]
theorem R_methodElem (h : Value) (w : World) : (Go.method 341 118 (.agg #[h]) "Elem").run Tryz.prog w = .ok (161, .agg #[h]) w := by kernel_rfl
theorem R_methodImplements (h : Value) (w : World) : (Go.method 341 118 (.agg #[h]) "Implements").run Tryz.prog w = .ok (162, .agg #[h]) w := by kernel_rfl
theorem R_methodAssignableTo (h : Value) (w : World) : (Go.method 341 118 (.agg #[h]) "AssignableTo").run Tryz.prog w = .ok (159, .agg #[h]) w := by kernel_rfl
theorem R_elem27 (w : World) : (ReflectliteType.method ReflectliteType.elem #[.agg #[.pointer (some ⟨9, 44, none⟩)]]).run Tryz.prog w = .ok (.iface 118 (.agg #[.pointer (some ⟨9, 42, none⟩)])) w := by kernel_rfl
theorem R_implements25 (w : World) : (ReflectliteType.relation "Implements" ReflectliteType.implements_ #[.agg #[.pointer (some ⟨9, 42, none⟩)], .iface 118 (.agg #[.pointer (some ⟨9, 27, none⟩)])]).run Tryz.prog w = .ok (.bool true) w := by kernel_rfl
theorem R_typeOf25 (v : Value) (w : World) : (ReflectliteType.typeOf #[.iface 42 v]).run Tryz.prog w = .ok (.iface 118 (.agg #[.pointer (some ⟨9, 42, none⟩)])) w := by kernel_rfl
theorem R_assignable25 (w : World) : (ReflectliteType.relation "AssignableTo" ReflectliteType.assignableTo #[.agg #[.pointer (some ⟨9, 42, none⟩)], .iface 118 (.agg #[.pointer (some ⟨9, 42, none⟩)])]).run Tryz.prog w = .ok (.bool true) w := by kernel_rfl
theorem R_valueOf25 (e : Addr) (w : World) : (ReflectliteValue.unpack (.iface 42 (.pointer (some e)))).run Tryz.prog w
    = .ok (.agg #[.pointer (some ⟨9, 42, none⟩), .pointer (some ⟨w.heap.size, 0, none⟩), .int .u64 150]) (w.alloc (.cells #[.pointer (some e)] 42)) := by kernel_rfl
theorem R_elemOf27 (w : World) : (Rtype.elem? 44).run Tryz.prog w = .ok (some 42) w := by kernel_rfl
theorem R_mk25 (p : Addr) (w : World) : (ReflectliteValue.mk 42 p ReflectliteValue.flagAddr).run Tryz.prog w = .ok (.agg #[.pointer (some ⟨9, 42, none⟩), .pointer (some p), .int .u64 406]) w := by kernel_rfl
theorem R_elemV27 (a p : Addr) (W : World) (ha : W.cell? a = some (.pointer (some p))) :
    (ReflectliteValue.method (ReflectliteValue.valueError "reflectlite.Value.Elem" 0) ReflectliteValue.elem #[.agg #[.pointer (some ⟨9, 44, none⟩), .pointer (some a), .int .u64 150]]).run Tryz.prog W
      = .ok (.agg #[.pointer (some ⟨9, 42, none⟩), .pointer (some p), .int .u64 406]) W := by
  rw [rlm]
  simp only [Sem.run_bind, R_parts27, Result.andThen]
  simp [ReflectliteValue.elem, loadVar, isAgg, underlying, Tryz.underlying44, ha, Result.andThen, R_elemOf27, R_mk25]
theorem rls (v x : Value) : ReflectliteValue.set #[v, x] = (do
    let (some (dst, a, fl), some (src, b, _)) := (← ReflectliteValue.parts v, ← ReflectliteValue.parts x)
      | unsupported (.noEntry "extern/(internal/reflectlite.Value).Set.zeroValue")
    if fl / ReflectliteValue.flagAddr % 2 == 0 then unsupported (.noEntry "extern/(internal/reflectlite.Value).Set.unaddressable")
    let val ← loadVar src b
    if ← Rtype.directlyAssignable dst src then storeVar dst a val
    else if ← Rtype.implements dst src then
      if (← Rtype.kind src) == 20 then
        match val with
        | .nilIface => unsupported (.noEntry "extern/reflectlite: a nil value of one interface type handed on as a value of another")
        | _ => storeVar dst a val
      else storeVar dst a (.iface src val)
    else panicString ("reflectlite.Set: value of type " ++ (← Rtype.spelt src) ++ " is not assignable to type " ++ (← Rtype.spelt dst))
    pure (.tuple #[])) := rfl
theorem R_parts25a (a : Addr) (w : World) : (ReflectliteValue.parts (.agg #[.pointer (some ⟨9, 42, none⟩), .pointer (some a), .int .u64 406])).run Tryz.prog w = .ok (some (42, a, 406)) w := by kernel_rfl
theorem R_parts25 (a : Addr) (w : World) : (ReflectliteValue.parts (.agg #[.pointer (some ⟨9, 42, none⟩), .pointer (some a), .int .u64 150])).run Tryz.prog w = .ok (some (42, a, 150)) w := by kernel_rfl
theorem R_direct25 (w : World) : (Rtype.directlyAssignable 42 42).run Tryz.prog w = .ok true w := by kernel_rfl
theorem R_set25 (ta b e : Addr) (old : Value) (W : World) (hb : W.cell? b = some (.pointer (some e))) (ht : W.cell? ta = some old) (hf : W.frozen? ta = false) :
    (ReflectliteValue.set #[.agg #[.pointer (some ⟨9, 42, none⟩), .pointer (some ta), .int .u64 406], .agg #[.pointer (some ⟨9, 42, none⟩), .pointer (some b), .int .u64 150]]).run Tryz.prog W
      = .ok (.tuple #[]) (W.setCell ta (.pointer (some e))) := by
  rw [rls]
  simp only [Sem.run_bind, R_parts25a, R_parts25, Result.andThen]
  simp [ReflectliteValue.flagAddr, loadVar, isAgg, underlying, Tryz.underlying42, hb, Result.andThen, R_direct25, storeVar, Value.cells, storeCells, Addr.add]
  rw [run_store Tryz.prog W ta _ _ (by rfl)]
  simp [ht, hf]
set_option maxHeartbeats 4000000 in
theorem as_hit (e t : Addr) (old : Value) (w : World) (hg : w.cell? ⟨0, 0, none⟩ = some (.iface 118 (.agg #[.pointer (some ⟨9, 27, none⟩)]))) (ht0 : w.cell? t = some old) (hf0 : w.frozen? t = false) :
    Calls Tryz.prog 15 #[.iface 42 (.pointer (some e)), .iface 44 (.pointer (some t))] w fun ev w' => ev = .returned (.bool true) ∧ w' = ((((w.alloc (.cells #[.pointer (some t)] 44)).alloc (.cells #[.pointer (some ⟨9, 44, none⟩), .pointer (some ⟨w.heap.size, 0, none⟩), .int .u64 150] 76)).alloc (.cells #[.pointer (some ⟨9, 44, none⟩), .pointer (some ⟨w.heap.size, 0, none⟩), .int .u64 150] 76)).alloc (.cells #[.pointer (some e)] 42)).setCell t (.pointer (some e)) := by
  have h6 := @run_callFunc_extern Tryz.prog 33 _ (fun args => ReflectliteValue.unpack (args.getD 0 (.tuple #[]))) Tryz.func33 (by kernel_rfl) (by kernel_rfl) (by kernel_rfl) (by kernel_rfl)
  have h7 := @run_callFunc_extern Tryz.prog 34 _ (ReflectliteValue.methodAny (ReflectliteValue.valueError "reflectlite.Value.Type" 0) (fun t _ _ _ => ReflectliteType.toType t)) Tryz.func34 (by kernel_rfl) (by kernel_rfl) (by kernel_rfl) (by kernel_rfl)
  have h8 := @run_callFunc_extern Tryz.prog 35 _ (ReflectliteValue.method (ReflectliteValue.valueError "reflectlite.Value.IsNil" 0) ReflectliteValue.isNil) Tryz.func35 (by kernel_rfl) (by kernel_rfl) (by kernel_rfl) (by kernel_rfl)
  have h27 := @run_callFunc_extern Tryz.prog 148 _ (ReflectliteType.abiMethod fun t => do pure (.int .u8 (← Rtype.kind t))) Tryz.func148 (by kernel_rfl) (by kernel_rfl) (by kernel_rfl) (by kernel_rfl)
  have h37 := @run_callFunc_extern Tryz.prog 161 _ (ReflectliteType.method ReflectliteType.elem) Tryz.func161 (by kernel_rfl) (by kernel_rfl) (by kernel_rfl) (by kernel_rfl)
  have h38 := @run_callFunc_extern Tryz.prog 162 _ (ReflectliteType.relation "Implements" ReflectliteType.implements_) Tryz.func162 (by kernel_rfl) (by kernel_rfl) (by kernel_rfl) (by kernel_rfl)
  have h10 := @run_callFunc_extern Tryz.prog 37 _ ReflectliteType.typeOf Tryz.func37 (by kernel_rfl) (by kernel_rfl) (by kernel_rfl) (by kernel_rfl)
  have h35 := @run_callFunc_extern Tryz.prog 159 _ (ReflectliteType.relation "AssignableTo" ReflectliteType.assignableTo) Tryz.func159 (by kernel_rfl) (by kernel_rfl) (by kernel_rfl) (by kernel_rfl)
  have h11 := @run_callFunc_extern Tryz.prog 60 _ (ReflectliteValue.method (ReflectliteValue.valueError "reflectlite.Value.Elem" 0) ReflectliteValue.elem) Tryz.func60 (by kernel_rfl) (by kernel_rfl) (by kernel_rfl) (by kernel_rfl)
  have h12 := @run_callFunc_extern Tryz.prog 61 _ ReflectliteValue.set Tryz.func61 (by kernel_rfl) (by kernel_rfl) (by kernel_rfl) (by kernel_rfl)
  have tO := R_typeOf25
  have mA := R_methodAssignableTo
  have a25 := R_assignable25
  have v25 := R_valueOf25
  have f6 := R_valueOf27
  have f7 := R_type27
  have mK := R_methodKind
  have mE := R_methodElem
  have mI := R_methodImplements
  have k27 := R_kind27
  have k25 := R_kind25
  have e27 := R_elem27
  have i25 := R_implements25
  have n8 := R_isNil27 ⟨w.heap.size, 0, none⟩ t ((w.alloc (.cells #[.pointer (some t)] 44)).alloc (.cells #[.pointer (some ⟨9, 44, none⟩), .pointer (some ⟨w.heap.size, 0, none⟩), .int .u64 150] 76)) (by simp)
  have hlt : 0 < w.heap.size := World.block_lt_of_cell? w _ hg
  have hg2 : ((w.alloc (.cells #[.pointer (some t)] 44)).alloc (.cells #[.pointer (some ⟨9, 44, none⟩), .pointer (some ⟨w.heap.size, 0, none⟩), .int .u64 150] 76)).cell? ⟨0, 0, none⟩ = some (.iface 118 (.agg #[.pointer (some ⟨9, 27, none⟩)])) := by
    rw [World.cell?_alloc_lt _ _ ⟨0, 0, none⟩ (by simp), World.cell?_alloc_lt _ _ ⟨0, 0, none⟩ hlt]; exact hg
  have htl : t.block < w.heap.size := by
    rcases Nat.lt_or_ge t.block w.heap.size with h | h
    · exact h
    · simp [World.cell?, Array.getElem?_eq_none h] at ht0
  have el := R_elemV27 ⟨w.heap.size, 0, none⟩ t (((w.alloc (.cells #[.pointer (some t)] 44)).alloc (.cells #[.pointer (some ⟨9, 44, none⟩), .pointer (some ⟨w.heap.size, 0, none⟩), .int .u64 150] 76)).alloc (.cells #[.pointer (some ⟨9, 44, none⟩), .pointer (some ⟨w.heap.size, 0, none⟩), .int .u64 150] 76)) (by rw [World.cell?_alloc_lt _ _ ⟨w.heap.size, 0, none⟩ (by simp; omega)]; simp)
  have st := R_set25 t ⟨w.heap.size + 1 + 1 + 1, 0, none⟩ e old ((((w.alloc (.cells #[.pointer (some t)] 44)).alloc (.cells #[.pointer (some ⟨9, 44, none⟩), .pointer (some ⟨w.heap.size, 0, none⟩), .int .u64 150] 76)).alloc (.cells #[.pointer (some ⟨9, 44, none⟩), .pointer (some ⟨w.heap.size, 0, none⟩), .int .u64 150] 76)).alloc (.cells #[.pointer (some e)] 42))
    (by rw [World.cell?_alloc_at _ _ _ _ (by simp)]; rfl)
    (by rw [World.cell?_alloc_lt _ _ t (by simp; omega), World.cell?_alloc_lt _ _ t (by simp; omega), World.cell?_alloc_lt _ _ t (by simp; omega), World.cell?_alloc_lt _ _ t htl]; exact ht0)
    (by rw [World.frozen?_alloc_old _ _ t (by simp; omega), World.frozen?_alloc_old _ _ t (by simp; omega), World.frozen?_alloc_old _ _ t (by simp; omega), World.frozen?_alloc_old _ _ t (Nat.ne_of_lt htl)]; exact hf0)
  go_enter Tryz.func15, Tryz.ntmps15
  go_wp2
  refine wp_loop_rounds 1 ?_
  rw [rounds_succ]
  go_wp2
  go_ret
  exact ⟨rfl, rfl⟩
end Go.Proofs.YtbefkoljcacpcaaGreatDoor.ErrP
set_option linter.unusedVariables false
namespace Go.Proofs.YtbefkoljcacpcaaGreatDoor.Ref
def val : List Nat → Nat
  | [] => 0
  | x :: l => x + 65536 * val l
theorem val_append : ∀ a b : List Nat, val (a ++ b) = val a + 65536 ^ a.length * val b
  | [], b => by simp [val]
  | x :: a, b => by
    rw [List.cons_append, val, val, val_append a b, List.length_cons, Nat.pow_succ, Nat.mul_add, Nat.add_assoc]
    congr 2
    rw [← Nat.mul_assoc, Nat.mul_comm 65536]
theorem val_set : ∀ (l : List Nat) (k y : Nat), k < l.length → val (l.set k y) + l.getD k 0 * 65536 ^ k = val l + y * 65536 ^ k
  | [], k, y, h => absurd h (by simp)
  | x :: l, 0, y, _ => by simp [val]; omega
  | x :: l, k + 1, y, h => by
    have ih := val_set l k y (by simpa using h)
    simp only [List.set_cons_succ, val, List.getD_cons_succ, Nat.pow_succ]
    have e1 : l.getD k 0 * (65536 ^ k * 65536) = 65536 * (l.getD k 0 * 65536 ^ k) := by rw [← Nat.mul_assoc, Nat.mul_comm]
    have e2 : y * (65536 ^ k * 65536) = 65536 * (y * 65536 ^ k) := by rw [← Nat.mul_assoc, Nat.mul_comm]
    rw [e1, e2]
    omega
theorem val_zeros : ∀ n, val (List.replicate n 0) = 0
  | 0 => rfl
  | n + 1 => by rw [List.replicate_succ, val, val_zeros n]
theorem val_take_succ (l : List Nat) (k : Nat) (h : k < l.length) : val (l.take (k + 1)) = val (l.take k) + l.getD k 0 * 65536 ^ k := by
  rw [List.take_add_one, val_append, List.getD_eq_getElem?_getD, List.getElem?_eq_getElem h, List.length_take, Nat.min_eq_left (by omega)]
  simp [val, Nat.mul_comm]
theorem val_lt : ∀ l : List Nat, (∀ x ∈ l, x < 65536) → val l < 65536 ^ l.length
  | [], _ => by simp [val]
  | x :: l, h => by
    have := val_lt l (fun y hy => h y (List.mem_cons_of_mem _ hy))
    have hx := h x (List.mem_cons_self)
    rw [val, List.length_cons, Nat.pow_succ]
    omega
theorem val_split (l : List Nat) (k : Nat) (h : k ≤ l.length) : val l = val (l.take k) + 65536 ^ k * val (l.drop k) := by
  have := val_append (l.take k) (l.drop k)
  rwa [List.take_append_drop, List.length_take, Nat.min_eq_left h] at this
theorem getD_set (l : List Nat) (i j y : Nat) (h : i < l.length) : (l.set i y).getD j 0 = if i = j then y else l.getD j 0 := by
  simp only [List.getD_eq_getElem?_getD, List.getElem?_set]
  by_cases e : i = j
  · subst e; simp [h]
  · simp [e]
structure Tim (a b : List Nat) (i j c : Nat) (o : List Nat) : Prop where
  len : o.length = a.length + b.length
  small : ∀ k, o.getD k 0 < 65536
  zero : ∀ k, i + b.length ≤ k → o.getD k 0 = 0
  carry : c < 65536
  eq : val o + c * 65536 ^ (i + j) = val (a.take i) * val b + a.getD i 0 * 65536 ^ i * val (b.take j)
variable {a b : List Nat} {i j c : Nat} {o : List Nat}
theorem Tim.start (a b : List Nat) : Tim a b 0 0 0 (List.replicate (a.length + b.length) 0) := by
  have hz : ∀ k, (List.replicate (a.length + b.length) 0).getD k 0 = 0 := fun k => by
    rw [List.getD_eq_getElem?_getD, List.getElem?_replicate]; split <;> rfl
  exact ⟨by simp, fun k => by rw [hz]; omega, fun k _ => hz k, by omega, by simp [val_zeros, val]⟩
theorem Tim.step (h : Tim a b i j c o) (hi : i < a.length) (hj : j < b.length) (ha : a.getD i 0 < 65536) (hb : b.getD j 0 < 65536) :
    Tim a b i (j + 1) ((o.getD (i + j) 0 + a.getD i 0 * b.getD j 0 + c) / 65536) (o.set (i + j) ((o.getD (i + j) 0 + a.getD i 0 * b.getD j 0 + c) % 65536)) := by
  have hl := h.len
  have hx := h.small (i + j)
  have hc := h.carry
  have hm : a.getD i 0 * b.getD j 0 ≤ 65535 * 65535 := Nat.mul_le_mul (by omega) (by omega)
  have hs := val_set o (i + j) ((o.getD (i + j) 0 + a.getD i 0 * b.getD j 0 + c) % 65536) (by omega)
  have he := h.eq
  refine ⟨by simp [hl], fun k => ?_, fun k hk => ?_, ?_, ?_⟩
  · rw [getD_set _ _ _ _ (by omega)]; split
    · omega
    · exact h.small k
  · rw [getD_set _ _ _ _ (by omega), if_neg (by omega)]; exact h.zero k hk
  · omega
  · rw [val_take_succ b j hj, Nat.mul_add]
    have e3 : a.getD i 0 * 65536 ^ i * (b.getD j 0 * 65536 ^ j) = a.getD i 0 * b.getD j 0 * 65536 ^ (i + j) := by
      rw [Nat.pow_add, Nat.mul_mul_mul_comm]
    have e4 : ((o.getD (i + j) 0 + a.getD i 0 * b.getD j 0 + c) / 65536) * 65536 ^ (i + (j + 1)) = (o.getD (i + j) 0 + a.getD i 0 * b.getD j 0 + c) / 65536 * 65536 * 65536 ^ (i + j) := by
      rw [show i + (j + 1) = (i + j) + 1 from by omega, Nat.pow_succ, Nat.mul_assoc, Nat.mul_comm (65536 ^ (i + j))]
    rw [e3, e4]
    have e5 : (o.getD (i + j) 0 + a.getD i 0 * b.getD j 0 + c) / 65536 * 65536 * 65536 ^ (i + j) + (o.getD (i + j) 0 + a.getD i 0 * b.getD j 0 + c) % 65536 * 65536 ^ (i + j) = o.getD (i + j) 0 * 65536 ^ (i + j) + a.getD i 0 * b.getD j 0 * 65536 ^ (i + j) + c * 65536 ^ (i + j) := by
      rw [← Nat.add_mul, ← Nat.add_mul, ← Nat.add_mul]; congr 1; omega
    omega
theorem Tim.row (h : Tim a b i b.length c o) (hi : i < a.length) : Tim a b (i + 1) 0 0 (o.set (i + b.length) (o.getD (i + b.length) 0 + c)) := by
  have hl := h.len
  have hz := h.zero (i + b.length) (Nat.le_refl _)
  have hs := val_set o (i + b.length) (o.getD (i + b.length) 0 + c) (by omega)
  have hc := h.carry
  have he := h.eq
  rw [hz] at hs ⊢
  refine ⟨by simp [hl], fun k => ?_, fun k hk => ?_, by omega, ?_⟩
  · rw [getD_set _ _ _ _ (by omega)]; split
    · omega
    · exact h.small k
  · rw [getD_set _ _ _ _ (by omega), if_neg (by omega)]; exact h.zero k (by omega)
  · rw [List.take_of_length_le (Nat.le_refl _)] at he
    rw [val_take_succ a i hi, Nat.add_mul]
    simp only [List.take_zero, val, Nat.mul_zero, Nat.add_zero, Nat.zero_mul] at hs ⊢
    simp only [Nat.zero_add] at hs ⊢
    omega
theorem Tim.done (h : Tim a b a.length 0 c o) (hc : c = 0) : val o = val a * val b := by
  have he := h.eq
  subst hc
  simpa [val] using he
end Go.Proofs.YtbefkoljcacpcaaGreatDoor.Ref
namespace Go.Proofs.YtbefkoljcacpcaaGreatDoor.CardW
open Go
variable {H : Type} {enc : TypeId × Value → H}
theorem returns_laid_shaped {a : Assume} {C : Checked} {os : Os} {f : FuncId} {fn : Func} {s : ChangeSpec} {conds : List PathCond} {apart fresh handsOn again : Bool} {X : World → Array Value → Prop}
    (hX : ∀ (w w' : World) (args : Array Value), w.heap = w'.heap → X w args → X w' args)
    (own : ownKnob C.prog.godebug = none) (started : os.Started) (noInit : C.prog.inits.idxOf? f = none) (hfn : C.prog.funcs[f]? = some fn)
    (witness : ∃ (w : World) (tape : Tape) (i : Input), w.os = os ∧ (w.forCall tape i).Shaped C.prog ∧ i.vars = [] ∧ Input.okWide C.prog (w.forCall tape i) .any w.heap.size f i ∧
      ((s.pre enc C.prog fn conds apart (w.forCall tape i).memory i.args ∧ X (w.forCall tape i).memory i.args) ∧ sizedMet enc C.prog fn (OpenSpec.ofChange s) apart (w.forCall tape i).memory i.args) ∧ a.holds C.prog (lone (Frame.enter C.prog f i.args .normal) [] (w.forCall tape i)))
    (contract : ∀ (W : World) (base : Nat) (args : Array Value) (ds gs : List (DataW H)) (before : List MemPlace),
      (∀ (j : Nat) t v, fn.params[j]? = some t → args[j]? = some v → Value.okWide C.prog W .any base t v) →
      DataW.Whole enc C.prog fn.params.toList s.vars apart W args.toList ds gs before →
      conds.all (PathCond.test C.prog ⟨fn.params.toList, ds, s.plain.varTypes C.prog, gs⟩) = true →
      (DataW.weightsEach C.prog (fn.params.toList ++ s.plain.varTypes C.prog) (ds ++ gs)).all (· ≤ reachBytes) = true → X W args → W.ShapedOpen C.prog →
      a.holds C.prog (lone (Frame.enter C.prog f args .normal) [] W) →
      Calls C.prog f args W fun e W' => ∃ v, e = .returned v ∧ s.post enc C.prog fn apart fresh handsOn again W args v W') :
    ReturnsInHanded a C os f .any (fun w args => (s.pre enc C.prog fn conds apart w args ∧ X w args) ∧ sizedMet enc C.prog fn (OpenSpec.ofChange s) apart w args) (s.post enc C.prog fn apart fresh handsOn again) := by
  refine returnsInHanded_of_calls own started noInit witness ?_
  intro w tape i h1 hshape h3 hok hpre hholds
  obtain ⟨k1, k2, k3, g, hg, k4, k5, k6, k7, hval⟩ := hok
  obtain rfl : g = fn := Option.some.inj (hg.symm.trans hfn)
  obtain ⟨⟨⟨ds, gs, before, hw, hc⟩, hx⟩, hz⟩ := hpre
  have goal := contract (w.forCall tape i) w.heap.size i.args ds gs before hval (DataW.Whole.of_heap (w' := w.forCall tape i) (by rfl) hw) hc (hz.weights hw) (hX _ _ _ (by rfl) hx) hshape hholds
  refine goal.mono ?_
  rintro e W' ⟨v, rfl, hp⟩
  exact ChangeSpec.post_blind hp
end Go.Proofs.YtbefkoljcacpcaaGreatDoor.CardW
set_option linter.unusedVariables false
namespace Go.Proofs.YtbefkoljcacpcaaGreatDoor.B
open Go.RowKit
def bc (l : List UInt8) : List Value := l.map fun b => .int .u8 (b.toNat : Int)
theorem bc_append (a b : List UInt8) : bc (a ++ b) = bc a ++ bc b := List.map_append ..
theorem bc_length (a : List UInt8) : (bc a).length = a.length := List.length_map ..
theorem bc_get (l : List UInt8) (j : Nat) (h : j < l.length) : (bc l)[j]? = some (.int .u8 (l[j].toNat : Int)) := by
  simp [bc, List.getElem?_eq_getElem h]
theorem info8 : ∃ i, Tryz.prog.info? 5 = some i ∧ i.zero = some (.int .u8 0) ∧ i.size = 1 ∧ i.bytes = 1 := by
  have h : (Tryz.prog.info? 5).map (fun i => (i.zero, i.size, i.bytes)) = some (some (.int .u8 0), 1, 1) := by kernel_rfl
  match hi : Tryz.prog.info? 5, h with
  | some i, h =>
    simp only [Option.map_some, Option.some.injEq, Prod.mk.injEq] at h
    exact ⟨i, rfl, h.1, h.2.1, h.2.2⟩
theorem own_conv (w : World) (base : Nat) (v : Value) (l : List UInt8) (h : w.ownsRow base 5 1 v l.length (bc l)) :
    (convert 30 9 v).run Tryz.prog w = .ok (.string ⟨l.toArray⟩) w := by
  rcases h.2 with ⟨rfl, h0⟩ | ⟨g, cap, cur, rfl, _, hg, _, _, hs, ht⟩
  · obtain rfl : l = [] := List.eq_nil_of_length_eq_zero h0
    exact run_convert_bytes_nil w 30 5 Tryz.underlying30 Tryz.underlying5 0 0 9 Tryz.underlying9
  · refine run_convert_bytes_back w 30 9 5 _ cap l Tryz.underlying30 Tryz.underlying5 Tryz.underlying9 fun j hj => ?_
    rw [add0, cell_of hg, ← bc_get l j hj, ← ht, List.getElem?_take, if_pos (by omega), Array.getElem?_toList]
theorem own_nil (w : World) (base : Nat) : w.ownsRow base 5 1 (.slice none 0 0) 0 (bc []) := ⟨rfl, .inl ⟨rfl, rfl⟩⟩
theorem own_tch {w w' w0 : World} {base n : Nat} {e : TypeId} {size : Nat} {v : Value} {xs : List Value} {S : Nat → Prop} (h : Tch S w0 w) (ho : w.ownsRow base e size v n xs) (hb : w0.heap.size ≤ base) (hg : w.grownBy w' v.ownBlock) : Tch S w0 w' :=
  ⟨hg.os.trans h.os, hg.tape.trans h.tape, hg.output.trans h.output, Nat.le_trans h.size hg.size, fun k hk hs =>
    (hg.block k (Nat.lt_of_lt_of_le hk h.size) (fun e => by have := (ho.lt k e.symm).1; omega)).trans (h.block k hk hs)⟩
theorem own_keep {w w' : World} {base n size : Nat} {e : TypeId} {v : Value} {xs : List Value} (h : w.ownsRow base e size v n xs) (ht : Tch (fun _ => False) w w') : w'.ownsRow base e size v n xs :=
  h.kept (row := none) ⟨ht.os, ht.tape, ht.output, ht.size, fun k hk _ => ht.block k hk (fun e => e)⟩ (by cases v.ownBlock <;> simp)
theorem bytes_of (w : World) (s : ByteArray) : ∃ cap w1 cells fz, (convert 9 30 (.string s)).run Tryz.prog w = .ok (.slice (some ⟨w.heap.size, 0, none⟩) s.size cap) w1 ∧
    Below w.heap.size w w1 ∧ w1.heap.size = w.heap.size + 1 ∧ w1.heap[w.heap.size]? = some (.cells cells 5 fz) ∧ cells.size = cap ∧ s.size ≤ cap ∧
    cells.toList.take s.size = bc s.data.toList ∧ (∀ j, j < cap → w1.frozen? ⟨w.heap.size, j, none⟩ = false) ∧ fz.1 = cap ∧ (s.size ≤ maxLen → cap ≤ maxLen) := by
  have hge := grownCap_ge w s.size 0 5
  refine ⟨_, _, bytesRow s (grownCap w s.size 0 5), ((bytesRow s (grownCap w s.size 0 5)).size, (bytesRow s (grownCap w s.size 0 5)).size + 1), run_bytes_of_string w 9 30 5 s Tryz.underlying9 Tryz.underlying30 Tryz.underlying5, ?_, ?_, ?_, ?_, hge, ?_, ?_, ?_, fun h => grownCap_le_maxLen w s.size 0 _ h⟩
  · exact (⟨rfl, rfl, rfl, Nat.le_refl _, fun _ _ => rfl⟩ : Below w.heap.size w w.drew).alloc (Nat.le_refl _) _
  · simp
  · exact heap_alloc_at w.drew _
  · simp [bytesRow]; have : s.data.size = s.size := rfl; omega
  · simp only [bytesRow, Array.toList_append, Array.toList_map]
    rw [List.take_append_of_le_length (by simp), List.take_of_length_le (by simp)]
    rfl
  · intro j hj
    have := heap_alloc_at w.drew (.cells (bytesRow s (grownCap w s.size 0 5)) 5 ((bytesRow s (grownCap w s.size 0 5)).size, (bytesRow s (grownCap w s.size 0 5)).size + 1))
    have hs : (bytesRow s (grownCap w s.size 0 5)).size = grownCap w s.size 0 5 := by simp [bytesRow]; have : s.data.size = s.size := rfl; omega
    change (w.drew.alloc _).heap[w.heap.size]? = _ at this
    have hf : ∀ (W : World) (fz : Nat × Nat) (C : Array Value) (t : TypeId), W.heap[w.heap.size]? = some (.cells C t fz) → j < fz.1 → W.frozen? ⟨w.heap.size, j, none⟩ = false := by
      intro W fz C t h1 h2
      unfold World.frozen?
      rw [h1]
      simp; omega
    exact hf _ _ _ _ this (by rw [hs]; exact hj)
  · simp [bytesRow]; have : s.data.size = s.size := rfl; omega
end Go.Proofs.YtbefkoljcacpcaaGreatDoor.B
set_option linter.unusedVariables false
set_option linter.unusedSimpArgs false
namespace Go.Proofs.YtbefkoljcacpcaaGreatDoor.Sha
open Go.RowKit Go.Proofs.YtbefkoljcacpcaaGreatDoor.B
abbrev W := BitVec 32
def nv (x : W) : Int := (x.toNat : Int)
theorem nv_of (n : Nat) (h : n < 4294967296) : nv (BitVec.ofNat 32 n) = (n : Int) := by
  unfold nv; rw [BitVec.toNat_ofNat, Nat.mod_eq_of_lt (by simpa using h)]
theorem nv_xor (a b : W) : bits .xor .u32 (nv a) (nv b) = nv (a ^^^ b) := by
  unfold nv; rw [u32_xor_nat _ _ (by have := a.isLt; omega) (by have := b.isLt; omega), BitVec.toNat_xor]
theorem nv_and (a b : W) : bits .and .u32 (nv a) (nv b) = nv (a &&& b) := by
  unfold nv; rw [u32_and_nat _ _ (by have := a.isLt; omega) (by have := b.isLt; omega), BitVec.toNat_and]
theorem nv_or (a b : W) : bits .or .u32 (nv a) (nv b) = nv (a ||| b) := by
  unfold nv; rw [u32_or_nat _ _ (by have := a.isLt; omega) (by have := b.isLt; omega), BitVec.toNat_or]
theorem nv_add (a b : W) : (nv a + nv b) % 4294967296 = nv (a + b) := by
  unfold nv; rw [BitVec.toNat_add]; omega
theorem nv_addw (a b : W) : IntKind.u32.wrap (nv a + nv b) = nv (a + b) := by rw [IntKind.wrap_u32, nv_add]
theorem nv_shr (a : W) (k : Nat) : nv a / 2 ^ k = nv (a >>> k) := by
  unfold nv
  rw [BitVec.toNat_ushiftRight, Nat.shiftRight_eq_div_pow]
  simp
theorem nv_shl (a : W) (k : Nat) : (nv a * 2 ^ k) % 4294967296 = nv (a <<< k) := by
  unfold nv
  rw [BitVec.toNat_shiftLeft, Nat.shiftLeft_eq]
  simp
theorem nv_byte (a : W) (c : UInt8) : bits .or .u32 (nv a) (c.toNat : Int) = nv (a ||| BitVec.ofNat 32 c.toNat) := by
  have := c.toNat_lt
  rw [← nv_or, nv_of _ (by omega)]
def ror (x : W) (n : Nat) : W := (x >>> n) ||| (x <<< (32 - n))
def s0 (x : W) : W := ror x 7 ^^^ ror x 18 ^^^ (x >>> 3)
def s1 (x : W) : W := ror x 17 ^^^ ror x 19 ^^^ (x >>> 10)
def S0 (a : W) : W := ror a 2 ^^^ ror a 13 ^^^ ror a 22
def S1 (e : W) : W := ror e 6 ^^^ ror e 11 ^^^ ror e 25
def ch (e f g : W) : W := (e &&& f) ^^^ (~~~e &&& g)
def maj (a b c : W) : W := (a &&& b) ^^^ (a &&& c) ^^^ (b &&& c)
theorem ch_or (e f g : W) : (e &&& f) ||| (~~~e &&& g) = ch e f g := by
  unfold ch
  apply BitVec.eq_of_getLsbD_eq
  intro i hi
  simp only [BitVec.getLsbD_or, BitVec.getLsbD_and, BitVec.getLsbD_xor, BitVec.getLsbD_not, hi, decide_true, Bool.true_and]
  cases e.getLsbD i <;> cases f.getLsbD i <;> cases g.getLsbD i <;> rfl
theorem maj_or (a b c : W) : ((a &&& b) ||| (a &&& c)) ||| (b &&& c) = maj a b c := by
  unfold maj
  apply BitVec.eq_of_getLsbD_eq
  intro i hi
  simp only [BitVec.getLsbD_or, BitVec.getLsbD_and, BitVec.getLsbD_xor]
  cases a.getLsbD i <;> cases b.getLsbD i <;> cases c.getLsbD i <;> rfl
def nextW (l : List W) : W := l.getD (l.length - 16) 0 + s0 (l.getD (l.length - 15) 0) + l.getD (l.length - 7) 0 + s1 (l.getD (l.length - 2) 0)
def sched (m : List W) : Nat → List W
  | 0 => m
  | n + 1 => sched m n ++ [nextW (sched m n)]
theorem sched_length (m : List W) (n : Nat) : (sched m n).length = m.length + n := by
  induction n with
  | zero => rfl
  | succ n ih => simp [sched, ih]; omega
def roundW (v : List W) (k w : W) : List W :=
  let one := v.getD 7 0 + S1 (v.getD 4 0) + ch (v.getD 4 0) (v.getD 5 0) (v.getD 6 0) + k + w
  let two := S0 (v.getD 0 0) + maj (v.getD 0 0) (v.getD 1 0) (v.getD 2 0)
  [one + two, v.getD 0 0, v.getD 1 0, v.getD 2 0, v.getD 3 0 + one, v.getD 4 0, v.getD 5 0, v.getD 6 0]
def rounds (ks ws : List W) (h : List W) : Nat → List W
  | 0 => h
  | t + 1 => roundW (rounds ks ws h t) (ks.getD t 0) (ws.getD t 0)
def compress (ks : List W) (h m : List W) : List W := (List.range 8).map fun i => h.getD i 0 + (rounds ks (sched m 48) h 64).getD i 0
def word (b : List UInt8) (t : Nat) : W :=
  (((BitVec.ofNat 32 (b.getD (4 * t) 0).toNat <<< 8 ||| BitVec.ofNat 32 (b.getD (4 * t + 1) 0).toNat) <<< 8 ||| BitVec.ofNat 32 (b.getD (4 * t + 2) 0).toNat) <<< 8) ||| BitVec.ofNat 32 (b.getD (4 * t + 3) 0).toNat
def words (b : List UInt8) : List W := (List.range 16).map (word b)
def runs (ks : List W) (h : List W) (b : List UInt8) : List W := if _h : 64 ≤ b.length then runs ks (compress ks h (words (b.take 64))) (b.drop 64) else h
termination_by b.length
decreasing_by simp; omega
theorem runs_short (ks h : List W) (b : List UInt8) (hb : b.length < 64) : runs ks h b = h := by
  rw [runs, dif_neg (by omega)]
theorem runs_long (ks h : List W) (b : List UInt8) (hb : 64 ≤ b.length) : runs ks h b = runs ks (compress ks h (words (b.take 64))) (b.drop 64) := by
  rw [runs, dif_pos hb]
def be8 (n : Nat) : List UInt8 := (List.range 8).map fun j => UInt8.ofNat (n / 2 ^ (8 * (7 - j)))
def padding (n : Nat) : List UInt8 := 128 :: List.replicate ((119 - n % 64) % 64) 0 ++ be8 (n * 8)
def ofWord (x : W) : List UInt8 := [UInt8.ofNat (x >>> 24).toNat, UInt8.ofNat (x >>> 16).toNat, UInt8.ofNat (x >>> 8).toNat, UInt8.ofNat x.toNat]
def shaL (ks h : List W) (s : List UInt8) : List UInt8 := (runs ks h (s ++ padding s.length)).flatMap ofWord
def sha (ks h : List W) (s : ByteArray) : ByteArray := ⟨(shaL ks h s.data.toList).toArray⟩
theorem compress_length (ks h m : List W) : (compress ks h m).length = 8 := by simp [compress]
theorem runs_length (ks : List W) : ∀ (n : Nat) (h : List W) (b : List UInt8), b.length ≤ n → h.length = 8 → (runs ks h b).length = 8
  | n, h, b, hn, hh => by
    by_cases e : 64 ≤ b.length
    · rw [runs_long ks h b e]
      cases n with
      | zero => omega
      | succ n => exact runs_length ks n _ _ (by simp; omega) (compress_length _ _ _)
    · rw [runs_short ks h b (by omega)]; exact hh
end Go.Proofs.YtbefkoljcacpcaaGreatDoor.Sha
set_option linter.unusedVariables false
set_option linter.unusedSimpArgs false
namespace Go.Proofs.YtbefkoljcacpcaaGreatDoor.B
open Go Go.RowKit
structure Lat (w : World) where
  val : World
  below : Below w.heap.size w val
theorem Lat.cell {w : World} {p : Addr} {v : Value} (h : w.cell? p = some v) (x : Lat w) : x.val.cell? p = some v := (x.below.cell (World.block_lt_of_cell? w p h)).trans h
def Lat.drew (w : World) : Lat w := ⟨w.drew, (Below.refl _ _).drew⟩
instance (w : World) : Nonempty (Lat w) := ⟨Lat.drew w⟩
theorem wp_region_lat {P : Program} {id : Nat} {Q : Exit → Act → World → Prop} {a : Act} {w : World} {l : List Oper} (hm : P.follows .mixedOrders = true) (hB : Region.lexB .any l.toArray = true)
    (h : wpQuiet P l.toArray (fun w' => ∃ x : Lat w, w' = x.val) (fun a' => ∀ w', (∃ x : Lat w, w' = x.val) → Q .normal a' w') l a) : (Code.region id l.toArray true).wp P Q a w :=
  wp_region_quiet (C := fun w' => ∃ x : Lat w, w' = x.val) hm hB ⟨Lat.drew w, rfl⟩ (by simpa using h)
theorem lat_of {P : Program} {f : FuncId} {args : Array Value} {w : World} {v : Value} {x : Lat w}
    (h : Calls P f args x.val fun e w' => e = .returned v ∧ Below x.val.heap.size x.val w') : Calls P f args x.val fun e w'' => e = .returned v ∧ ∃ y : Lat w, w'' = y.val :=
  h.mono fun _ w' ⟨he, hb⟩ => ⟨he, ⟨w', x.below.trans (hb.mono x.below.size)⟩, rfl⟩
end Go.Proofs.YtbefkoljcacpcaaGreatDoor.B
set_option linter.unusedVariables false
namespace Go.Proofs.YtbefkoljcacpcaaGreatDoor.Tm
open Go Go.Lib
def isD (c : UInt8) : Prop := 48 ≤ c.toNat ∧ c.toNat ≤ 57
theorem val_le_append : ∀ (b a : List UInt8), val a ≤ val (a ++ b)
  | [], a => by simp
  | c :: b, a => by
    have h := val_le_append b (a ++ [c])
    rw [List.append_assoc] at h
    rw [val_snoc] at h
    have e : [c] ++ b = c :: b := rfl
    rw [e] at h
    omega
theorem dec_head_zero (m : Nat) (r : List UInt8) (h : decDigits m = 48 :: r) : m = 0 := by
  induction m using Nat.strongRecOn generalizing r with
  | _ m ih =>
    rw [decDigits] at h
    split at h
    · rename_i hlt
      injection h with h1 _
      have h2 := congrArg UInt8.toNat h1
      rw [UInt8.toNat_ofNat'] at h2
      have : (48 : UInt8).toNat = 48 := rfl
      omega
    · have hne := dec_ne (m / 10)
      obtain ⟨c, q, hq⟩ := List.exists_cons_of_ne_nil hne
      rw [hq, List.cons_append] at h
      injection h with h1 _
      have := ih (m / 10) (by omega) q (by rw [hq, h1])
      omega
theorem digs_at {s : List UInt8} {m k : Nat} {x : List UInt8} (h : s = decDigits m ++ 58 :: x) (hk : ∀ j, j < k → ∀ c, s[j]? = some c → isD c) (hks : k ≤ s.length) : k ≤ (decDigits m).length := by
  by_cases hc : k ≤ (decDigits m).length
  · exact hc
  · exfalso
    have h1 := hk (decDigits m).length (by omega) 58 (by rw [h, List.getElem?_append_right (Nat.le_refl _), Nat.sub_self]; rfl)
    unfold isD at h1
    simp at h1
theorem digs_pre {s : List UInt8} {m k : Nat} {x : List UInt8} (h : s = decDigits m ++ 58 :: x) (hk : k ≤ (decDigits m).length) : s.take k = (decDigits m).take k := by
  rw [h, List.take_append_of_le_length hk]
theorem digs_val {s : List UInt8} {m k : Nat} {x : List UInt8} (h : s = decDigits m ++ 58 :: x) (hk : k ≤ (decDigits m).length) : val (s.take k) ≤ m := by
  rw [digs_pre h hk]
  have := val_le_append ((decDigits m).drop k) ((decDigits m).take k)
  rw [List.take_append_drop, val_dec] at this
  exact this
theorem digs_end {s : List UInt8} {m k : Nat} {x : List UInt8} (h : s = decDigits m ++ 58 :: x) (hk : k ≤ (decDigits m).length) (c : UInt8) (hc : s[k]? = some c) (hn : ¬ isD c) :
    c = 58 ∧ 0 < k ∧ s.take k = decDigits m ∧ s.drop (k + 1) = x := by
  have e : k = (decDigits m).length := by
    by_cases e : k = (decDigits m).length
    · exact e
    · exfalso
      have hlt : k < (decDigits m).length := by omega
      rw [h, List.getElem?_append_left hlt, List.getElem?_eq_getElem hlt] at hc
      exact hn (dec_digit m c (by rw [← Option.some.inj hc]; exact List.getElem_mem hlt))
  subst e
  rw [h, List.getElem?_append_right (Nat.le_refl _), Nat.sub_self] at hc
  refine ⟨(Option.some.inj hc).symm, List.length_pos_iff.2 (dec_ne m), ?_, ?_⟩
  · rw [h, List.take_left']
    rfl
  · rw [h, List.drop_append, List.drop_of_length_le (by omega), Nat.add_sub_cancel_left]
    rfl
theorem digs_full {s : List UInt8} {m k : Nat} {x : List UInt8} (h : s = decDigits m ++ 58 :: x) (hk : k ≤ (decDigits m).length) : k < s.length := by
  rw [h, List.length_append, List.length_cons]
  omega
theorem digs_zero {s : List UInt8} {m : Nat} {x : List UInt8} (h : s = decDigits m ++ 58 :: x) (h0 : s[0]? = some 48) : s[1]? = some 58 := by
  obtain ⟨c, q, hq⟩ := List.exists_cons_of_ne_nil (dec_ne m)
  have hm : m = 0 := by
    refine dec_head_zero m q ?_
    rw [h, hq] at h0
    simp only [List.cons_append, List.getElem?_cons_zero, Option.some.injEq] at h0
    rw [hq, h0]
  subst hm
  rw [h]
  have : decDigits 0 = [48] := by rw [decDigits]; rfl
  rw [this]
  rfl
def LenSpec (s : List UInt8) (n : Int) (ok : Bool) (r : List UInt8) : Prop :=
  r.length ≤ s.length ∧ (ok = true → 0 ≤ n ∧ n ≤ r.length ∧ r.length < s.length) ∧
  ∀ t x, t.length ≤ 65536 → s = decDigits t.length ++ 58 :: (t ++ x) → ok = true ∧ n = t.length ∧ r = t ++ x
def LenInv (s : List UInt8) (k n : Nat) : Prop := k ≤ s.length ∧ n = val (s.take k) ∧ n ≤ 65536 ∧ ∀ j, j < k → ∀ c, s[j]? = some c → isD c
theorem lenInv_zero (s : List UInt8) : LenInv s 0 0 := ⟨Nat.zero_le _, rfl, by omega, fun j hj => absurd hj (by omega)⟩
theorem take_at {s : List UInt8} {k : Nat} {c : UInt8} (h : s[k]? = some c) : s.take (k + 1) = s.take k ++ [c] := by rw [List.take_add_one, h]; rfl
theorem lenInv_step {s : List UInt8} {k n : Nat} {c : UInt8} (h : LenInv s k n) (hc : s[k]? = some c) (hd : isD c) (hn : 10 * n + (c.toNat - 48) ≤ 65536) : LenInv s (k + 1) (10 * n + (c.toNat - 48)) := by
  obtain ⟨h1, h2, h3, h4⟩ := h
  have hk : k < s.length := by
    by_cases hk : k < s.length
    · exact hk
    · rw [List.getElem?_eq_none (by omega)] at hc; cases hc
  refine ⟨by omega, by rw [take_at hc, val_snoc, ← h2], hn, fun j hj d hdj => ?_⟩
  by_cases e : j = k
  · subst e; rw [hc] at hdj; rw [← Option.some.inj hdj]; exact hd
  · exact h4 j (by omega) d hdj
theorem len_big {s : List UInt8} {k n : Nat} {c : UInt8} (h : LenInv s k n) (hc : s[k]? = some c) (hd : isD c) (hn : 65536 < 10 * n + (c.toNat - 48)) (v : Int) : LenSpec s v false s := by
  obtain ⟨h1, h2, h3, h4⟩ := h
  have hk : k < s.length := by
    by_cases hk : k < s.length
    · exact hk
    · rw [List.getElem?_eq_none (by omega)] at hc; cases hc
  refine ⟨Nat.le_refl _, fun h => (by cases h), fun t x ht e => ?_⟩
  exfalso
  have hall : ∀ j, j < k + 1 → ∀ c, s[j]? = some c → isD c := by
    intro j hj d hdj
    by_cases e : j = k
    · subst e; rw [hc] at hdj; rw [← Option.some.inj hdj]; exact hd
    · exact h4 j (by omega) d hdj
  have := digs_val e (digs_at e hall (by omega))
  rw [take_at hc, val_snoc, ← h2] at this
  omega
theorem len_zero {s : List UInt8} (h0 : s[0]? = some 48) (h1 : s[1]? ≠ some 58) (v : Int) : LenSpec s v false s :=
  ⟨Nat.le_refl _, fun h => (by cases h), fun t x ht e => absurd (digs_zero e h0) h1⟩
theorem len_none {s : List UInt8} {k n : Nat} {c : UInt8} (h : LenInv s k n) (hc : s[k]? = some c) (hd : ¬ isD c) (hn : ¬ (c = 58 ∧ 0 < k)) (v : Int) : LenSpec s v false s := by
  obtain ⟨h1, h2, h3, h4⟩ := h
  refine ⟨Nat.le_refl _, fun h => (by cases h), fun t x ht e => ?_⟩
  exfalso
  obtain ⟨e1, e2, _⟩ := digs_end e (digs_at e h4 h1) c hc hd
  exact hn ⟨e1, e2⟩
theorem len_over {s : List UInt8} {n : Nat} (h : LenInv s s.length n) (v : Int) : LenSpec s v false s := by
  obtain ⟨h1, h2, h3, h4⟩ := h
  refine ⟨Nat.le_refl _, fun h => (by cases h), fun t x ht e => ?_⟩
  exfalso
  have := digs_full e (digs_at e h4 h1)
  omega
theorem len_good {s : List UInt8} {k n : Nat} (h : LenInv s k n) (hc : s[k]? = some 58) : LenSpec s n (decide (n ≤ (s.drop (k + 1)).length)) (s.drop (k + 1)) := by
  obtain ⟨h1, h2, h3, h4⟩ := h
  have hk : k < s.length := by
    by_cases hk : k < s.length
    · exact hk
    · rw [List.getElem?_eq_none (by omega)] at hc; cases hc
  refine ⟨by rw [List.length_drop]; omega, fun h => ⟨by omega, by have := of_decide_eq_true h; omega, by rw [List.length_drop]; omega⟩, fun t x ht e => ?_⟩
  obtain ⟨_, _, e3, e4⟩ := digs_end e (digs_at e h4 h1) 58 hc (by unfold isD; simp)
  rw [e3, val_dec] at h2
  rw [e4]
  refine ⟨decide_eq_true (by rw [List.length_append]; omega), by omega, rfl⟩
end Go.Proofs.YtbefkoljcacpcaaGreatDoor.Tm
set_option linter.unusedVariables false
set_option linter.unusedSimpArgs false
namespace Go.Proofs.YtbefkoljcacpcaaGreatDoor.Err
open Go Go.RowKit Go.Extern.Stop Go.Stop Go.Extern
theorem isTypeOf (v : Value) (w : World) : (Extern.ReflectliteType.typeOf #[.iface 48 v]).run Tryz.prog w = .ok (.iface 118 (.agg #[.pointer (some ⟨9, 48, none⟩)])) w := by kernel_rfl
theorem isComparable (w : World) : (callFunc 160 #[.agg #[.pointer (some ⟨9, 48, none⟩)]]).run Tryz.prog w = .ok (Next.value (.bool true)) w := by
  have h32 := @run_callFunc_extern Tryz.prog 160 _ (Extern.ReflectliteType.method fun t => do Extern.Rtype.noPackHeld "Comparable" t; pure (.bool (← typeInfo t).comparable)) Tryz.func160 (by kernel_rfl) (by kernel_rfl) (by kernel_rfl) (by kernel_rfl)
  exact (h32 _ w).trans (by kernel_rfl)
theorem isMethodComparable (v : Value) (w : World) : (Go.method 341 118 v "Comparable").run Tryz.prog w = .ok (160, v) w := by kernel_rfl
theorem isComp : (Tryz.prog.info? 48).map (·.comparable) = some true := by kernel_rfl
theorem is_same (a : Int) (w : World) :
    Calls Tryz.prog 16 #[.iface 48 (.int .i64 a), .iface 48 (.int .i64 a)] w fun e w' => e = .returned (.bool true) ∧ w' = w := by
  have h8 := @run_callFunc_extern Tryz.prog 37 _ Extern.ReflectliteType.typeOf Tryz.func37 (by kernel_rfl) (by kernel_rfl) (by kernel_rfl) (by kernel_rfl)
  have tT := isTypeOf
  have cT := isComparable
  have mR := isMethodComparable
  have heq := Go.Lib.run_eql_iface_int (P := Tryz.prog) w (k := .i64) (q := .i64) a a Tryz.underlying27 isComp Tryz.underlying48
  rw [beq_self_eq_true] at heq
  go_enter Tryz.func16, Tryz.ntmps16
  go_wp2
  refine wp_loop_rounds 1 ?_
  rw [rounds_succ]
  go_wp2
  go_ret
  exact ⟨rfl, rfl⟩
def ErrT (w : World) : Prop := w.cell? ⟨0, 0, none⟩ = some (.iface 118 (.agg #[.pointer (some ⟨9, 27, none⟩)]))
theorem ErrT.below {w w' : World} (h : ErrT w) (hb : Below w.heap.size w w') : ErrT w' := (hb.cell (World.block_lt_of_cell? _ _ h)).trans h
theorem Code_nil (w : World) : Calls Tryz.prog 12 #[.nilIface] w fun e w' => e = .returned (.int .i64 0) ∧ w' = w := by
  go_enter Tryz.func12, Tryz.ntmps12
  go_wp2
  go_ret
  exact ⟨rfl, rfl⟩
theorem as_any (e : Int) (t : Addr) (old : Value) (w : World) (hg : ErrT w) (ht0 : w.cell? t = some old) (hf0 : w.frozen? t = false) :
    Calls Tryz.prog 15 #[.iface 48 (.int .i64 e), .iface 66 (.pointer (some t))] w fun ev w' => ev = .returned (.bool true) ∧ w'.cell? t = some (.int .i64 e) ∧ Below t.block w w' := by
  have htl := World.block_lt_of_cell? w _ ht0
  refine (as_hit e t old w hg ht0 hf0).mono ?_
  rintro ev w' ⟨rfl, rfl⟩
  refine ⟨rfl, ?_, ?_⟩
  · refine World.cell?_setCell_same _ t _ (u := old) ?_
    rw [World.cell?_alloc_lt _ _ t (by simp; omega), World.cell?_alloc_lt _ _ t (by simp; omega), World.cell?_alloc_lt _ _ t (by simp; omega), World.cell?_alloc_lt _ _ t htl]
    exact ht0
  · exact (((((Below.refl _ _).alloc (Nat.le_of_lt htl) _).alloc (by simp; omega) _).alloc (by simp; omega) _).alloc (by simp; omega) _).setCell (Nat.le_refl _) _
set_option maxHeartbeats 1000000 in
theorem Code_errno (e : Int) (w : World) (hg : ErrT w) : Calls Tryz.prog 12 #[.iface 48 (.int .i64 e)] w fun ev w' => ev = .returned (.int .i64 e) ∧ Below w.heap.size w w' := by
  have A := Lib.hid (as_any e ⟨w.heap.size, 0, none⟩ (.int .i64 0) (w.alloc (.cells #[.int .i64 0] 48)) (hg.below ((Below.refl _ _).alloc (Nat.le_refl _) _)) (by simp) (by simp))
  have I := Lib.hid (fun w' => is_same e w')
  clear hg
  go_enter Tryz.func12, Tryz.ntmps12
  go_wp2_with fail
  refine (A.out).mono ?_
  rintro ev w1 ⟨rfl, hc, hb⟩
  replace hb := Lib.hid hb
  clear A
  go_wp2_with fail
  refine (I.out _).mono ?_
  rintro ev w2 ⟨rfl, rfl⟩
  go_wp2_with fail
  go_ret
  exact ⟨rfl, ((Below.refl _ _).alloc (Nat.le_refl _) _).trans hb.out⟩
end Go.Proofs.YtbefkoljcacpcaaGreatDoor.Err
set_option linter.unusedVariables false
set_option linter.unusedSimpArgs false
namespace Go.Proofs.YtbefkoljcacpcaaGreatDoor.Rd
open Go.RowKit Go.WideShapes Go.ChangeShapes
def Keeps (w w' : World) : Prop := ∀ a v, w.cell? a = some v → w'.cell? a = some v
theorem Keeps.refl (w : World) : Keeps w w := fun _ _ h => h
theorem Keeps.trans {a b c : World} (h : Keeps a b) (k : Keeps b c) : Keeps a c := fun x v hx => k x v (h x v hx)
theorem Keeps.of_below {w w' : World} (h : Below w.heap.size w w') : Keeps w w' := fun a v hc => (h.cell (World.block_lt_of_cell? w a hc)).trans hc
theorem Keeps.alloc (w : World) (o : Obj) : Keeps w (w.alloc o) := fun a v hc => (World.cell?_alloc_lt _ _ _ (World.block_lt_of_cell? w a hc)).trans hc
theorem Keeps.drew (w : World) : Keeps w w.drew := fun _ _ h => h
abbrev Rel (α : Type) := World → List Value → α → Prop
def RInt (k : IntKind) : Rel Int := fun _ cs x => cs = [.int k x] ∧ (Lit.int k x).wf = true
def RStr : Rel ByteArray := fun _ cs x => cs = [.string x] ∧ x.size ≤ 140737488351232
def RSl {α : Type} (size : Nat) (R : Rel α) : Rel (List α) := fun w cs xs =>
  ∃ A cap, cs = [.slice A xs.length cap] ∧ xs.length ≤ cap ∧ cap ≤ 140737488351232 ∧
    (0 < xs.length → ∃ b off, A = some ⟨b, off, none⟩ ∧ ∀ i (h : i < xs.length), ∃ es : List Value, es.length = size ∧ (∀ j, j < size → w.cell? ⟨b, off + i * size + j, none⟩ = es[j]?) ∧ R w es xs[i])
theorem choose_list {α : Type} {p : Nat → α → Prop} : ∀ (n : Nat), (∀ i, i < n → ∃ x, p i x) → ∃ xs : List α, xs.length = n ∧ ∀ i (h : i < xs.length), p i xs[i]
  | 0, _ => ⟨[], rfl, fun i h => absurd h (Nat.not_lt_zero _)⟩
  | n + 1, h => by
    obtain ⟨xs, hl, hx⟩ := choose_list n (fun i hi => h i (by omega))
    obtain ⟨y, hy⟩ := h n (by omega)
    refine ⟨xs ++ [y], by simp [hl], fun i hi => ?_⟩
    simp only [List.length_append, List.length_cons, List.length_nil] at hi
    by_cases e : i < xs.length
    · rw [List.getElem_append_left e]; exact hx i e
    · obtain rfl : i = n := by omega
      rw [List.getElem_append_right (by omega)]
      simpa [hl] using hy
section
variable {H : Type} {enc : TypeId × Value → H} {P : Program} {w : World}
def Opens {α : Type} (enc : TypeId × Value → H) (P : Program) (w : World) (t : TypeId) (R : Rel α) : Prop :=
  ∀ fuel cs y, DataW.trod enc P w 0 (fun _ => true) true fuel t cs = some y → (∀ n ∈ y.1.weights P t, n ≤ reachBytes) → ∃ x, R w cs x
theorem opens_int {t : TypeId} {k : IntKind} (ht : P.underlying t = some (.int k)) : Opens enc P w t (RInt k) := fun fuel cs y h _ => by
  obtain ⟨n, h1, _, h3⟩ := DataW.trod_int ht h
  exact ⟨n, h1, h3⟩
theorem opens_str {t : TypeId} (ht : P.underlying t = some .string) : Opens enc P w t RStr := fun fuel cs y h hw => by
  obtain ⟨n, h1, rfl, h3⟩ := DataW.trod_string ht h
  refine ⟨n, h1, ?_⟩
  have := hw n.data.toList.length (by simp [DataW.weights])
  simp only [Array.length_toList] at this
  exact this
theorem add_add0 (a : Addr) (i j : Nat) (h : a.spot = none) : (a.add i).add j = ⟨a.block, a.off + i + j, none⟩ := by
  obtain ⟨b, o, s⟩ := a
  simp only at h
  subst h
  unfold Addr.add
  by_cases h1 : i = 0 <;> by_cases h2 : j = 0 <;> simp [h1, h2]
theorem weights_all {t : TypeId} : ∀ {ds : List (DataW H)} {d : DataW H}, d ∈ ds → ∀ n ∈ d.weights P t, n ∈ DataW.weightsAll P t ds
  | d0 :: ds, d, hd, n, hn => by
    simp only [DataW.weightsAll, List.mem_append]
    rcases List.mem_cons.1 hd with e | e
    · exact .inl (e ▸ hn)
    · exact .inr (weights_all e n hn)
theorem opens_sl {α : Type} {t e : TypeId} {size : Nat} {R : Rel α} (ht : P.underlying t = some (.slice e)) (hC : P.cellsOf e = size) (hs : 0 < size) (hB : 0 < P.bytesOf e) (he : Opens enc P w e R) : Opens enc P w t (RSl size R) := by
  intro fuel cs y h hw
  rcases DataW.trod_slice ht h with ⟨rfl, _⟩ | ⟨a, len, cap, elems, rest, n, _, rfl, rfl, _, hl, hm, hlen, hel, hsp, _⟩
  · exact ⟨[], none, 0, rfl, Nat.le_refl _, by omega, fun h => absurd h (Nat.lt_irrefl 0)⟩
  · have hcap : cap ≤ 140737488351232 := by
      have h1 := hw ((elems.length + rest.length) * P.bytesOf e) (by simp [DataW.weights, ht])
      have h2 := (hsp rfl).1
      have h3 : elems.length + rest.length ≤ (elems.length + rest.length) * P.bytesOf e := Nat.le_mul_of_pos_right _ hB
      unfold reachBytes at h1
      omega
    have hwe : ∀ y ∈ elems, ∀ n ∈ y.1.weights P e, n ≤ reachBytes := fun y hy n hn => by
      refine hw n ?_
      simp only [DataW.weights, ht, List.mem_cons, List.mem_append]
      exact .inr (.inl (weights_all (List.mem_map_of_mem hy) n hn))
    have each : ∀ i, i < len → ∃ x, ∃ es : List Value, es.length = size ∧ (∀ j, j < size → w.cell? ((a.add (i * size)).add j) = es[j]?) ∧ R w es x := by
      intro i hi
      have h1 := hel i hi
      rw [hC, List.getElem?_eq_getElem (by omega)] at h1
      obtain ⟨es, hes, htr⟩ := Option.bind_eq_some_iff.1 h1
      obtain ⟨_, h2, h3⟩ := World.cells?_some hes
      obtain ⟨x, hx⟩ := he _ _ _ htr (hwe _ (List.getElem_mem _))
      exact ⟨x, es, h2, h3, hx⟩
    obtain ⟨xs, hxl, hx⟩ := choose_list len each
    subst hxl
    refine ⟨xs, some a, cap, rfl, hl, hcap, fun h0 => ?_⟩
    have hsp : a.spot = none := by
      obtain ⟨es, h1, h2, _⟩ := hx 0 h0
      have := h2 0 hs
      rw [List.getElem?_eq_getElem (by omega)] at this
      have e : (a.add (0 * size)).add 0 = a := by simp [Addr.add]
      rw [e] at this
      exact World.cell?_spot this
    refine ⟨a.block, a.off, by obtain ⟨b, o, s⟩ := a; simp only at hsp; rw [hsp], fun i hi => ?_⟩
    obtain ⟨es, h1, h2, h3⟩ := hx i hi
    refine ⟨es, h1, fun j hj => ?_, h3⟩
    rw [← add_add0 a _ _ hsp]
    exact h2 j hj
theorem struct_fields {t : TypeId} {fs : Array Field} {fuel : Nat} {cs : List Value} {y : DataW H × List MemPlace} (ht : P.underlying t = some (.struct fs))
    (h : DataW.trod enc P w 0 (fun _ => true) true fuel t cs = some y) (hw : ∀ n ∈ y.1.weights P t, n ≤ reachBytes) :
    cs.length = P.cellsOf t ∧ ∀ (α : Type) (i : Nat) (f : Field) (R : Rel α), fs[i]? = some f → Opens enc P w f.type R → ∃ x, R w ((cs.drop f.offset).take (P.cellsOf f.type)) x := by
  obtain ⟨xs, n, _, rfl, hl, hxl, hf⟩ := DataW.trod_struct ht h
  refine ⟨hl, fun α i f R hi ho => ?_⟩
  have hil : i < xs.length := by
    rw [hxl]
    exact (Array.getElem?_eq_some_iff.1 hi).1
  have h1 := hf i f hi
  rw [List.getElem?_eq_getElem hil] at h1
  refine ho _ _ _ h1 fun m hm => hw m ?_
  simp only [DataW.weights, ht]
  exact DataW.weights_mem_each (j := i) (t := f.type) (d := xs[i].1) (by simp [List.getElem?_map, Array.getElem?_toList, hi]) (by simp [List.getElem?_map, List.getElem?_eq_getElem hil]) m hm
theorem arg_weights {ts : List TypeId} {ds : List (DataW H)} (h : (DataW.weightsEach P ts ds).all (· ≤ reachBytes) = true) {j : Nat} {t : TypeId} {d : DataW H} (ht : ts[j]? = some t) (hd : ds[j]? = some d) : ∀ n ∈ d.weights P t, n ≤ reachBytes :=
  fun n hn => by simpa using List.all_eq_true.1 h _ (DataW.weights_mem_each ht hd n hn)
end
theorem sl_at {α : Type} {size : Nat} {R : Rel α} {w : World} {A : Option Addr} {len cap : Nat} {xs : List α} (h : RSl size R w [.slice A len cap] xs) : len = xs.length ∧ len ≤ cap ∧ cap ≤ 140737488351232 ∧
    (0 < len → ∃ b off, A = some ⟨b, off, none⟩ ∧ ∀ i (hi : i < xs.length), ∃ es : List Value, es.length = size ∧ (∀ j, j < size → w.cell? ⟨b, off + i * size + j, none⟩ = es[j]?) ∧ R w es xs[i]) := by
  obtain ⟨A', cap', e, h1, h2, h3⟩ := h
  injection e with e
  injection e with e1 e2 e3
  subst e1; subst e2; subst e3
  exact ⟨rfl, h1, h2, h3⟩
end Go.Proofs.YtbefkoljcacpcaaGreatDoor.Rd
