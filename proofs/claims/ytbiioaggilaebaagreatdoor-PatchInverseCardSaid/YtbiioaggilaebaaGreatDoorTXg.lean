/- What LawPatchInverse lean on, part g of 29: the texts ShaP, Bytes, TmL, Lat, ErrB, Rd, ShaT, Bld. -/
import Derived.Test.YtbiioaggilaebaaGreatDoorTX0
import Derived.Test.YtbiioaggilaebaaGreatDoorTXf
import Derived.Laws.BitsLemmas
import Derived.Laws.Bits64
import Derived.Laws.BitsAll
import Derived.Laws.BitsAllLaws
import Derived.Test.YtbiioaggilaebaaGreatDoorProg
import Derived.Deep.AppendLies
import Derived.Laws.IdiomStrings
import Derived.Laws.BytesArg
import Derived.KernelRfl
import Derived.Lib.IfaceEq
import Derived.Lib.Hide
import Derived.WalkSpells
import Derived.WalkLawsBesides
import Derived.Deep.DeepFit
import Derived.ProofKit
import Derived.SliceStrings
import Derived.SizedLaws
import Derived.Lib.Builder
import Derived.Lib.AppendStr
import Derived.Lib.UnsafeStr
import Derived.ChangeAlike
import Derived.Laws.Externs
import Derived.Laws.OwnMore
import Derived.RegionTactic
import Derived.RowKit
set_option linter.all false
set_option maxRecDepth 100000
set_option maxHeartbeats 16000000
namespace Go.Proofs.YtbiioaggilaebaaGreatDoor.Sha
open Go.RowKit B
abbrev W := BitVec 32
def nv (x : W) : Int := (x.toNat : Int)
theorem nv_of (n : Nat) (h : n < 4294967296) : nv (BitVec.ofNat 32 n) = (n : Int) := by
 unfold nv; rw [BitVec.toNat_ofNat, Nat.mod_eq_of_lt (by simpa using h)]
theorem nv_xor (a b : W) : bits .xor .u32 (nv a) (nv b) = nv (a ^^^ b) := by
 unfold nv; rw [u32_xor_nat _ _ (by have := a.isLt; omega) (by have := b.isLt; omega), BitVec.toNat_xor]
theorem nv_and (a b : W) : bits .and .u32 (nv a) (nv b) = nv (a &&& b) := by
 unfold nv; rw [u32_and_nat _ _ (by have := a.isLt; omega) (by have := b.isLt; omega), BitVec.toNat_and]
theorem nv_or (a b : W) : bits .or .u32 (nv a) (nv b) = nv (a ||| b) := by
 unfold nv; rw [u32_or_nat _ _ (by have := a.isLt; omega) (by have := b.isLt; omega), BitVec.toNat_or]
theorem nv_add (a b : W) : (nv a + nv b) % 4294967296 = nv (a + b) := by
 unfold nv; rw [BitVec.toNat_add]; omega
theorem nv_addw (a b : W) : IntKind.u32.wrap (nv a + nv b) = nv (a + b) := by rw [IntKind.wrap_u32, nv_add]
theorem nv_shr (a : W) (k : Nat) : nv a / 2 ^ k = nv (a >>> k) := by
 unfold nv
 rw [BitVec.toNat_ushiftRight, Nat.shiftRight_eq_div_pow]
 simp
theorem nv_shl (a : W) (k : Nat) : (nv a * 2 ^ k) % 4294967296 = nv (a <<< k) := by
 unfold nv
 rw [BitVec.toNat_shiftLeft, Nat.shiftLeft_eq]
 simp
theorem nv_byte (a : W) (c : UInt8) : bits .or .u32 (nv a) (c.toNat : Int) = nv (a ||| BitVec.ofNat 32 c.toNat) := by
 have := c.toNat_lt
 rw [<- nv_or, nv_of _ (by omega)]
def ror (x : W) (n : Nat) : W := (x >>> n) ||| (x <<< (32 - n))
def s0 (x : W) : W := ror x 7 ^^^ ror x 18 ^^^ (x >>> 3)
def s1 (x : W) : W := ror x 17 ^^^ ror x 19 ^^^ (x >>> 10)
def S0 (a : W) : W := ror a 2 ^^^ ror a 13 ^^^ ror a 22
def S1 (e : W) : W := ror e 6 ^^^ ror e 11 ^^^ ror e 25
def ch (e f g : W) : W := (e &&& f) ^^^ (~~~e &&& g)
def maj (a b c : W) : W := (a &&& b) ^^^ (a &&& c) ^^^ (b &&& c)
theorem ch_or (e f g : W) : (e &&& f) ||| (~~~e &&& g) = ch e f g := by
 unfold ch
 apply BitVec.eq_of_getLsbD_eq
 intro i hi
 simp only [BitVec.getLsbD_or, BitVec.getLsbD_and, BitVec.getLsbD_xor, BitVec.getLsbD_not, hi, decide_true, Bool.true_and]
 cases e.getLsbD i <;> cases f.getLsbD i <;> cases g.getLsbD i <;> rfl
theorem maj_or (a b c : W) : ((a &&& b) ||| (a &&& c)) ||| (b &&& c) = maj a b c := by
 unfold maj
 apply BitVec.eq_of_getLsbD_eq
 intro i hi
 simp only [BitVec.getLsbD_or, BitVec.getLsbD_and, BitVec.getLsbD_xor]
 cases a.getLsbD i <;> cases b.getLsbD i <;> cases c.getLsbD i <;> rfl
def nextW (l : List W) : W := l.getD (l.length - 16) 0 + s0 (l.getD (l.length - 15) 0) + l.getD (l.length - 7) 0 + s1 (l.getD (l.length - 2) 0)
def sched (m : List W) : Nat -> List W
 | 0 => m
 | n + 1 => sched m n ++ [nextW (sched m n)]
theorem sched_length (m : List W) (n : Nat) : (sched m n).length = m.length + n := by
 induction n with
 | zero => rfl
 | succ n ih => simp [sched, ih]; omega
def roundW (v : List W) (k w : W) : List W :=
 let one := v.getD 7 0 + S1 (v.getD 4 0) + ch (v.getD 4 0) (v.getD 5 0) (v.getD 6 0) + k + w
 let two := S0 (v.getD 0 0) + maj (v.getD 0 0) (v.getD 1 0) (v.getD 2 0)
 [one + two, v.getD 0 0, v.getD 1 0, v.getD 2 0, v.getD 3 0 + one, v.getD 4 0, v.getD 5 0, v.getD 6 0]
def rounds (ks ws : List W) (h : List W) : Nat -> List W
 | 0 => h
 | t + 1 => roundW (rounds ks ws h t) (ks.getD t 0) (ws.getD t 0)
def compress (ks : List W) (h m : List W) : List W := (List.range 8).map fun i => h.getD i 0 + (rounds ks (sched m 48) h 64).getD i 0
def word (b : List UInt8) (t : Nat) : W :=
 (((BitVec.ofNat 32 (b.getD (4 * t) 0).toNat <<< 8 ||| BitVec.ofNat 32 (b.getD (4 * t + 1) 0).toNat) <<< 8 ||| BitVec.ofNat 32 (b.getD (4 * t + 2) 0).toNat) <<< 8) ||| BitVec.ofNat 32 (b.getD (4 * t + 3) 0).toNat
def words (b : List UInt8) : List W := (List.range 16).map (word b)
def runs (ks : List W) (h : List W) (b : List UInt8) : List W := if _h : 64 <= b.length then runs ks (compress ks h (words (b.take 64))) (b.drop 64) else h
termination_by b.length
decreasing_by simp; omega
theorem runs_short (ks h : List W) (b : List UInt8) (hb : b.length < 64) : runs ks h b = h := by
 rw [runs, dif_neg (by omega)]
theorem runs_long (ks h : List W) (b : List UInt8) (hb : 64 <= b.length) : runs ks h b = runs ks (compress ks h (words (b.take 64))) (b.drop 64) := by
 rw [runs, dif_pos hb]
def be8 (n : Nat) : List UInt8 := (List.range 8).map fun j => UInt8.ofNat (n / 2 ^ (8 * (7 - j)))
def padding (n : Nat) : List UInt8 := 128 :: List.replicate ((119 - n % 64) % 64) 0 ++ be8 (n * 8)
def ofWord (x : W) : List UInt8 := [UInt8.ofNat (x >>> 24).toNat, UInt8.ofNat (x >>> 16).toNat, UInt8.ofNat (x >>> 8).toNat, UInt8.ofNat x.toNat]
def shaL (ks h : List W) (s : List UInt8) : List UInt8 := (runs ks h (s ++ padding s.length)).flatMap ofWord
def sha (ks h : List W) (s : ByteArray) : ByteArray := ⟨(shaL ks h s.data.toList).toArray⟩
theorem compress_length (ks h m : List W) : (compress ks h m).length = 8 := by simp [compress]
theorem runs_length (ks : List W) : ∀ (n : Nat) (h : List W) (b : List UInt8), b.length <= n -> h.length = 8 -> (runs ks h b).length = 8
 | n, h, b, hn, hh => by
  by_cases e : 64 <= b.length
  . rw [runs_long ks h b e]
    cases n with
    | zero => omega
    | succ n => exact runs_length ks n _ _ (by simp; omega) (compress_length _ _ _)
  . rw [runs_short ks h b (by omega)]; exact hh
end Go.Proofs.YtbiioaggilaebaaGreatDoor.Sha
namespace Go.Proofs.YtbiioaggilaebaaGreatDoor.B
open Go.RowKit
def bc (l : List UInt8) : List Value := l.map fun b => .int .u8 (b.toNat : Int)
theorem bc_append (a b : List UInt8) : bc (a ++ b) = bc a ++ bc b := List.map_append ..
theorem bc_length (a : List UInt8) : (bc a).length = a.length := List.length_map ..
theorem bc_get (l : List UInt8) (j : Nat) (h : j < l.length) : (bc l)[j]? = some (.int .u8 (l[j].toNat : Int)) := by
 simp [bc, List.getElem?_eq_getElem h]
theorem info8 : ∃ i, Tryz.prog.info? 5 = some i /\ i.zero = some (.int .u8 0) /\ i.size = 1 /\ i.bytes = 1 := by
 have h : (Tryz.prog.info? 5).map (fun i => (i.zero, i.size, i.bytes)) = some (some (.int .u8 0), 1, 1) := by kernel_rfl
 match hi : Tryz.prog.info? 5, h with
 | some i, h =>
  simp only [Option.map_some, Option.some.injEq, Prod.mk.injEq] at h
  exact ⟨i, rfl, h.1, h.2.1, h.2.2⟩
theorem own_conv (w : World) (base : Nat) (v : Value) (l : List UInt8) (h : w.ownsRow base 5 1 v l.length (bc l)) :
 (convert 69 9 v).run Tryz.prog w = .ok (.string ⟨l.toArray⟩) w := by
 rcases h.2 with ⟨rfl, h0⟩ | ⟨g, cap, cur, rfl, _, hg, _, _, hs, ht⟩
 . obtain rfl : l = [] := List.eq_nil_of_length_eq_zero h0
   exact run_convert_bytes_nil w 69 5 Tryz.underlying69 Tryz.underlying5 0 0 9 Tryz.underlying9
 . refine run_convert_bytes_back w 69 9 5 _ cap l Tryz.underlying69 Tryz.underlying5 Tryz.underlying9 fun j hj => ?_
   rw [add0, cell_of hg, <- bc_get l j hj, <- ht, List.getElem?_take, if_pos (by omega), Array.getElem?_toList]
theorem own_nil (w : World) (base : Nat) : w.ownsRow base 5 1 (.slice none 0 0) 0 (bc []) := ⟨rfl, .inl ⟨rfl, rfl⟩⟩
theorem own_tch {w w' w0 : World} {base n : Nat} {e : TypeId} {size : Nat} {v : Value} {xs : List Value} {S : Nat -> Prop} (h : Tch S w0 w) (ho : w.ownsRow base e size v n xs) (hb : w0.heap.size <= base) (hg : w.grownBy w' v.ownBlock) : Tch S w0 w' :=
 ⟨hg.os.trans h.os, hg.tape.trans h.tape, hg.output.trans h.output, Nat.le_trans h.size hg.size, fun k hk hs =>
  (hg.block k (Nat.lt_of_lt_of_le hk h.size) (fun e => by have := (ho.lt k e.symm).1; omega)).trans (h.block k hk hs)⟩
theorem own_keep {w w' : World} {base n size : Nat} {e : TypeId} {v : Value} {xs : List Value} (h : w.ownsRow base e size v n xs) (ht : Tch (fun _ => False) w w') : w'.ownsRow base e size v n xs :=
 h.kept (row := none) ⟨ht.os, ht.tape, ht.output, ht.size, fun k hk _ => ht.block k hk (fun e => e)⟩ (by cases v.ownBlock <;> simp)
theorem bytes_of (w : World) (s : ByteArray) : ∃ cap w1 cells fz, (convert 9 69 (.string s)).run Tryz.prog w = .ok (.slice (some ⟨w.heap.size, 0, none⟩) s.size cap) w1 /\
 Below w.heap.size w w1 /\ w1.heap.size = w.heap.size + 1 /\ w1.heap[w.heap.size]? = some (.cells cells 5 fz) /\ cells.size = cap /\ s.size <= cap /\
 cells.toList.take s.size = bc s.data.toList /\ (∀ j, j < cap -> w1.frozen? ⟨w.heap.size, j, none⟩ = false) /\ fz.1 = cap /\ (s.size <= maxLen -> cap <= maxLen) := by
 have hge := grownCap_ge w s.size 0 5
 refine ⟨_, _, bytesRow s (grownCap w s.size 0 5), ((bytesRow s (grownCap w s.size 0 5)).size, (bytesRow s (grownCap w s.size 0 5)).size + 1), run_bytes_of_string w 9 69 5 s Tryz.underlying9 Tryz.underlying69 Tryz.underlying5, ?_, ?_, ?_, ?_, hge, ?_, ?_, ?_, fun h => grownCap_le_maxLen w s.size 0 _ h⟩
 . exact (⟨rfl, rfl, rfl, Nat.le_refl _, fun _ _ => rfl⟩ : Below w.heap.size w w.drew).alloc (Nat.le_refl _) _
 . simp
 . exact heap_alloc_at w.drew _
 . simp [bytesRow]; have : s.data.size = s.size := rfl; omega
 . simp only [bytesRow, Array.toList_append, Array.toList_map]
   rw [List.take_append_of_le_length (by simp), List.take_of_length_le (by simp)]
   rfl
 . intro j hj
   have := heap_alloc_at w.drew (.cells (bytesRow s (grownCap w s.size 0 5)) 5 ((bytesRow s (grownCap w s.size 0 5)).size, (bytesRow s (grownCap w s.size 0 5)).size + 1))
   have hs : (bytesRow s (grownCap w s.size 0 5)).size = grownCap w s.size 0 5 := by simp [bytesRow]; have : s.data.size = s.size := rfl; omega
   change (w.drew.alloc _).heap[w.heap.size]? = _ at this
   have hf : ∀ (W : World) (fz : Nat × Nat) (C : Array Value) (t : TypeId), W.heap[w.heap.size]? = some (.cells C t fz) -> j < fz.1 -> W.frozen? ⟨w.heap.size, j, none⟩ = false := by
    intro W fz C t h1 h2
    unfold World.frozen?
    rw [h1]
    simp; omega
   exact hf _ _ _ _ this (by rw [hs]; exact hj)
 . simp [bytesRow]; have : s.data.size = s.size := rfl; omega
end Go.Proofs.YtbiioaggilaebaaGreatDoor.B
namespace Go.Proofs.YtbiioaggilaebaaGreatDoor.Tm
open Go Go.Lib
def isD (c : UInt8) : Prop := 48 <= c.toNat /\ c.toNat <= 57
theorem val_le_append : ∀ (b a : List UInt8), val a <= val (a ++ b)
 | [], a => by simp
 | c :: b, a => by
  have h := val_le_append b (a ++ [c])
  rw [List.append_assoc] at h
  rw [val_snoc] at h
  have e : [c] ++ b = c :: b := rfl
  rw [e] at h
  omega
theorem dec_head_zero (m : Nat) (r : List UInt8) (h : decDigits m = 48 :: r) : m = 0 := by
 induction m using Nat.strongRecOn generalizing r with
 | _ m ih =>
  rw [decDigits] at h
  split at h
  . rename_i hlt
    injection h with h1 _
    have h2 := congrArg UInt8.toNat h1
    rw [UInt8.toNat_ofNat'] at h2
    have : (48 : UInt8).toNat = 48 := rfl
    omega
  . have hne := dec_ne (m / 10)
    obtain ⟨c, q, hq⟩ := List.exists_cons_of_ne_nil hne
    rw [hq, List.cons_append] at h
    injection h with h1 _
    have := ih (m / 10) (by omega) q (by rw [hq, h1])
    omega
theorem digs_at {s : List UInt8} {m k : Nat} {x : List UInt8} (h : s = decDigits m ++ 58 :: x) (hk : ∀ j, j < k -> ∀ c, s[j]? = some c -> isD c) (hks : k <= s.length) : k <= (decDigits m).length := by
 by_cases hc : k <= (decDigits m).length
 . exact hc
 . exfalso
   have h1 := hk (decDigits m).length (by omega) 58 (by rw [h, List.getElem?_append_right (Nat.le_refl _), Nat.sub_self]; rfl)
   unfold isD at h1
   simp at h1
theorem digs_pre {s : List UInt8} {m k : Nat} {x : List UInt8} (h : s = decDigits m ++ 58 :: x) (hk : k <= (decDigits m).length) : s.take k = (decDigits m).take k := by
 rw [h, List.take_append_of_le_length hk]
theorem digs_val {s : List UInt8} {m k : Nat} {x : List UInt8} (h : s = decDigits m ++ 58 :: x) (hk : k <= (decDigits m).length) : val (s.take k) <= m := by
 rw [digs_pre h hk]
 have := val_le_append ((decDigits m).drop k) ((decDigits m).take k)
 rw [List.take_append_drop, val_dec] at this
 exact this
theorem digs_end {s : List UInt8} {m k : Nat} {x : List UInt8} (h : s = decDigits m ++ 58 :: x) (hk : k <= (decDigits m).length) (c : UInt8) (hc : s[k]? = some c) (hn : ¬ isD c) :
 c = 58 /\ 0 < k /\ s.take k = decDigits m /\ s.drop (k + 1) = x := by
 have e : k = (decDigits m).length := by
  by_cases e : k = (decDigits m).length
  . exact e
  . exfalso
    have hlt : k < (decDigits m).length := by omega
    rw [h, List.getElem?_append_left hlt, List.getElem?_eq_getElem hlt] at hc
    exact hn (dec_digit m c (by rw [<- Option.some.inj hc]; exact List.getElem_mem hlt))
 subst e
 rw [h, List.getElem?_append_right (Nat.le_refl _), Nat.sub_self] at hc
 refine ⟨(Option.some.inj hc).symm, List.length_pos_iff.2 (dec_ne m), ?_, ?_⟩
 . rw [h, List.take_left']
   rfl
 . rw [h, List.drop_append, List.drop_of_length_le (by omega), Nat.add_sub_cancel_left]
   rfl
theorem digs_full {s : List UInt8} {m k : Nat} {x : List UInt8} (h : s = decDigits m ++ 58 :: x) (hk : k <= (decDigits m).length) : k < s.length := by
 rw [h, List.length_append, List.length_cons]
 omega
theorem digs_zero {s : List UInt8} {m : Nat} {x : List UInt8} (h : s = decDigits m ++ 58 :: x) (h0 : s[0]? = some 48) : s[1]? = some 58 := by
 obtain ⟨c, q, hq⟩ := List.exists_cons_of_ne_nil (dec_ne m)
 have hm : m = 0 := by
  refine dec_head_zero m q ?_
  rw [h, hq] at h0
  simp only [List.cons_append, List.getElem?_cons_zero, Option.some.injEq] at h0
  rw [hq, h0]
 subst hm
 rw [h]
 have : decDigits 0 = [48] := by rw [decDigits]; rfl
 rw [this]
 rfl
def LenSpec (s : List UInt8) (n : Int) (ok : Bool) (r : List UInt8) : Prop :=
 r.length <= s.length /\ (ok = true -> 0 <= n /\ n <= r.length /\ r.length < s.length) /\
 ∀ t x, t.length <= 65536 -> s = decDigits t.length ++ 58 :: (t ++ x) -> ok = true /\ n = t.length /\ r = t ++ x
def LenInv (s : List UInt8) (k n : Nat) : Prop := k <= s.length /\ n = val (s.take k) /\ n <= 65536 /\ ∀ j, j < k -> ∀ c, s[j]? = some c -> isD c
theorem lenInv_zero (s : List UInt8) : LenInv s 0 0 := ⟨Nat.zero_le _, rfl, by omega, fun j hj => absurd hj (by omega)⟩
theorem take_at {s : List UInt8} {k : Nat} {c : UInt8} (h : s[k]? = some c) : s.take (k + 1) = s.take k ++ [c] := by rw [List.take_add_one, h]; rfl
theorem lenInv_step {s : List UInt8} {k n : Nat} {c : UInt8} (h : LenInv s k n) (hc : s[k]? = some c) (hd : isD c) (hn : 10 * n + (c.toNat - 48) <= 65536) : LenInv s (k + 1) (10 * n + (c.toNat - 48)) := by
 obtain ⟨h1, h2, h3, h4⟩ := h
 have hk : k < s.length := by
  by_cases hk : k < s.length
  . exact hk
  . rw [List.getElem?_eq_none (by omega)] at hc; cases hc
 refine ⟨by omega, by rw [take_at hc, val_snoc, <- h2], hn, fun j hj d hdj => ?_⟩
 by_cases e : j = k
 . subst e; rw [hc] at hdj; rw [<- Option.some.inj hdj]; exact hd
 . exact h4 j (by omega) d hdj
theorem len_big {s : List UInt8} {k n : Nat} {c : UInt8} (h : LenInv s k n) (hc : s[k]? = some c) (hd : isD c) (hn : 65536 < 10 * n + (c.toNat - 48)) (v : Int) : LenSpec s v false s := by
 obtain ⟨h1, h2, h3, h4⟩ := h
 have hk : k < s.length := by
  by_cases hk : k < s.length
  . exact hk
  . rw [List.getElem?_eq_none (by omega)] at hc; cases hc
 refine ⟨Nat.le_refl _, fun h => (by cases h), fun t x ht e => ?_⟩
 exfalso
 have hall : ∀ j, j < k + 1 -> ∀ c, s[j]? = some c -> isD c := by
  intro j hj d hdj
  by_cases e : j = k
  . subst e; rw [hc] at hdj; rw [<- Option.some.inj hdj]; exact hd
  . exact h4 j (by omega) d hdj
 have := digs_val e (digs_at e hall (by omega))
 rw [take_at hc, val_snoc, <- h2] at this
 omega
theorem len_zero {s : List UInt8} (h0 : s[0]? = some 48) (h1 : s[1]? ≠ some 58) (v : Int) : LenSpec s v false s :=
 ⟨Nat.le_refl _, fun h => (by cases h), fun t x ht e => absurd (digs_zero e h0) h1⟩
theorem len_none {s : List UInt8} {k n : Nat} {c : UInt8} (h : LenInv s k n) (hc : s[k]? = some c) (hd : ¬ isD c) (hn : ¬ (c = 58 /\ 0 < k)) (v : Int) : LenSpec s v false s := by
 obtain ⟨h1, h2, h3, h4⟩ := h
 refine ⟨Nat.le_refl _, fun h => (by cases h), fun t x ht e => ?_⟩
 exfalso
 obtain ⟨e1, e2, _⟩ := digs_end e (digs_at e h4 h1) c hc hd
 exact hn ⟨e1, e2⟩
theorem len_over {s : List UInt8} {n : Nat} (h : LenInv s s.length n) (v : Int) : LenSpec s v false s := by
 obtain ⟨h1, h2, h3, h4⟩ := h
 refine ⟨Nat.le_refl _, fun h => (by cases h), fun t x ht e => ?_⟩
 exfalso
 have := digs_full e (digs_at e h4 h1)
 omega
theorem len_good {s : List UInt8} {k n : Nat} (h : LenInv s k n) (hc : s[k]? = some 58) : LenSpec s n (decide (n <= (s.drop (k + 1)).length)) (s.drop (k + 1)) := by
 obtain ⟨h1, h2, h3, h4⟩ := h
 have hk : k < s.length := by
  by_cases hk : k < s.length
  . exact hk
  . rw [List.getElem?_eq_none (by omega)] at hc; cases hc
 refine ⟨by rw [List.length_drop]; omega, fun h => ⟨by omega, by have := of_decide_eq_true h; omega, by rw [List.length_drop]; omega⟩, fun t x ht e => ?_⟩
 obtain ⟨_, _, e3, e4⟩ := digs_end e (digs_at e h4 h1) 58 hc (by unfold isD; simp)
 rw [e3, val_dec] at h2
 rw [e4]
 refine ⟨decide_eq_true (by rw [List.length_append]; omega), by omega, rfl⟩
end Go.Proofs.YtbiioaggilaebaaGreatDoor.Tm
namespace Go.Proofs.YtbiioaggilaebaaGreatDoor.B
open Go Go.RowKit
structure Lat (w : World) where
 val : World
 below : Below w.heap.size w val
theorem Lat.cell {w : World} {p : Addr} {v : Value} (h : w.cell? p = some v) (x : Lat w) : x.val.cell? p = some v := (x.below.cell (World.block_lt_of_cell? w p h)).trans h
def Lat.drew (w : World) : Lat w := ⟨w.drew, (Below.refl _ _).drew⟩
instance (w : World) : Nonempty (Lat w) := ⟨Lat.drew w⟩
theorem wp_region_lat {P : Program} {id : Nat} {Q : Exit -> Act -> World -> Prop} {a : Act} {w : World} {l : List Oper} (hm : P.follows .mixedOrders = true) (hB : Region.lexB .any l.toArray = true)
 (h : wpQuiet P l.toArray (fun w' => ∃ x : Lat w, w' = x.val) (fun a' => ∀ w', (∃ x : Lat w, w' = x.val) -> Q .normal a' w') l a) : (Code.region id l.toArray true).wp P Q a w :=
 wp_region_quiet (C := fun w' => ∃ x : Lat w, w' = x.val) hm hB ⟨Lat.drew w, rfl⟩ (by simpa using h)
theorem lat_of {P : Program} {f : FuncId} {args : Array Value} {w : World} {v : Value} {x : Lat w}
 (h : Calls P f args x.val fun e w' => e = .returned v /\ Below x.val.heap.size x.val w') : Calls P f args x.val fun e w'' => e = .returned v /\ ∃ y : Lat w, w'' = y.val :=
 h.mono fun _ w' ⟨he, hb⟩ => ⟨he, ⟨w', x.below.trans (hb.mono x.below.size)⟩, rfl⟩
end Go.Proofs.YtbiioaggilaebaaGreatDoor.B
namespace Go.Proofs.YtbiioaggilaebaaGreatDoor.Err
open Go Go.RowKit Go.Extern.Stop Go.Stop Go.Extern
theorem isTypeOf (v : Value) (w : World) : (Extern.ReflectliteType.typeOf #[.iface 54 v]).run Tryz.prog w = .ok (.iface 154 (.agg #[.pointer (some ⟨9, 54, none⟩)])) w := by kernel_rfl
theorem isComparable (w : World) : (callFunc 234 #[.agg #[.pointer (some ⟨9, 54, none⟩)]]).run Tryz.prog w = .ok (Next.value (.bool true)) w := by
 have h32 := @run_callFunc_extern Tryz.prog 234 _ (Extern.ReflectliteType.method fun t => do Extern.Rtype.noPackHeld "Comparable" t; pure (.bool (<- typeInfo t).comparable)) Tryz.func234 (by kernel_rfl) (by kernel_rfl) (by kernel_rfl) (by kernel_rfl)
 exact (h32 _ w).trans (by kernel_rfl)
theorem isMethodComparable (v : Value) (w : World) : (Go.method 398 154 v "Comparable").run Tryz.prog w = .ok (234, v) w := by kernel_rfl
theorem isComp : (Tryz.prog.info? 54).map (·.comparable) = some true := by kernel_rfl
theorem is_same (a : Int) (w : World) :
 Calls Tryz.prog 26 #[.iface 54 (.int .i64 a), .iface 54 (.int .i64 a)] w fun e w' => e = .returned (.bool true) /\ w' = w := by
 have h8 := @run_callFunc_extern Tryz.prog 66 _ Extern.ReflectliteType.typeOf Tryz.func66 (by kernel_rfl) (by kernel_rfl) (by kernel_rfl) (by kernel_rfl)
 have tT := isTypeOf
 have cT := isComparable
 have mR := isMethodComparable
 have heq := Go.Lib.run_eql_iface_int (P := Tryz.prog) w (k := .i64) (q := .i64) a a Tryz.underlying29 isComp Tryz.underlying54
 rw [beq_self_eq_true] at heq
 go_enter Tryz.func26, Tryz.ntmps26
 go_wp2
 refine wp_loop_rounds 1 ?_
 rw [rounds_succ]
 go_wp2
 go_ret
 exact ⟨rfl, rfl⟩
def ErrT (w : World) : Prop := w.cell? ⟨0, 0, none⟩ = some (.iface 154 (.agg #[.pointer (some ⟨9, 29, none⟩)]))
theorem ErrT.below {w w' : World} (h : ErrT w) (hb : Below w.heap.size w w') : ErrT w' := (hb.cell (World.block_lt_of_cell? _ _ h)).trans h
theorem Code_nil (w : World) : Calls Tryz.prog 18 #[.nilIface] w fun e w' => e = .returned (.int .i64 0) /\ w' = w := by
 go_enter Tryz.func18, Tryz.ntmps18
 go_wp2
 go_ret
 exact ⟨rfl, rfl⟩
theorem as_any (e : Int) (t : Addr) (old : Value) (w : World) (hg : ErrT w) (ht0 : w.cell? t = some old) (hf0 : w.frozen? t = false) :
 Calls Tryz.prog 25 #[.iface 54 (.int .i64 e), .iface 83 (.pointer (some t))] w fun ev w' => ev = .returned (.bool true) /\ w'.cell? t = some (.int .i64 e) /\ Below t.block w w' := by
 have htl := World.block_lt_of_cell? w _ ht0
 refine (as_hit e t old w hg ht0 hf0).mono ?_
 rintro ev w' ⟨rfl, rfl⟩
 refine ⟨rfl, ?_, ?_⟩
 . refine World.cell?_setCell_same _ t _ (u := old) ?_
   rw [World.cell?_alloc_lt _ _ t (by simp; omega), World.cell?_alloc_lt _ _ t (by simp; omega), World.cell?_alloc_lt _ _ t (by simp; omega), World.cell?_alloc_lt _ _ t htl]
   exact ht0
 . exact (((((Below.refl _ _).alloc (Nat.le_of_lt htl) _).alloc (by simp; omega) _).alloc (by simp; omega) _).alloc (by simp; omega) _).setCell (Nat.le_refl _) _
theorem Code_errno (e : Int) (w : World) (hg : ErrT w) : Calls Tryz.prog 18 #[.iface 54 (.int .i64 e)] w fun ev w' => ev = .returned (.int .i64 e) /\ Below w.heap.size w w' := by
 have A := lh (as_any e ⟨w.heap.size, 0, none⟩ (.int .i64 0) (w.alloc (.cells #[.int .i64 0] 54)) (hg.below ((Below.refl _ _).alloc (Nat.le_refl _) _)) (by simp) (by simp))
 have I := lh (fun w' => is_same e w')
 clear hg
 go_enter Tryz.func18, Tryz.ntmps18
 go_wp2_with fail
 refine (A.out).mono ?_
 rintro ev w1 ⟨rfl, hc, hb⟩
 replace hb := lh hb
 clear A
 go_wp2_with fail
 refine (I.out _).mono ?_
 rintro ev w2 ⟨rfl, rfl⟩
 go_wp2_with fail
 go_ret
 exact ⟨rfl, ((Below.refl _ _).alloc (Nat.le_refl _) _).trans hb.out⟩
end Go.Proofs.YtbiioaggilaebaaGreatDoor.Err
namespace Go.Proofs.YtbiioaggilaebaaGreatDoor.Rd
open Go.RowKit Go.WideShapes Go.ChangeShapes
def Keeps (w w' : World) : Prop := ∀ a v, w.cell? a = some v -> w'.cell? a = some v
theorem Keeps.refl (w : World) : Keeps w w := fun _ _ h => h
theorem Keeps.trans {a b c : World} (h : Keeps a b) (k : Keeps b c) : Keeps a c := fun x v hx => k x v (h x v hx)
theorem Keeps.of_below {w w' : World} (h : Below w.heap.size w w') : Keeps w w' := fun a v hc => (h.cell (World.block_lt_of_cell? w a hc)).trans hc
theorem Keeps.alloc (w : World) (o : Obj) : Keeps w (w.alloc o) := fun a v hc => (World.cell?_alloc_lt _ _ _ (World.block_lt_of_cell? w a hc)).trans hc
theorem Keeps.drew (w : World) : Keeps w w.drew := fun _ _ h => h
abbrev Rel (α : Type) := World -> List Value -> α -> Prop
def RInt (k : IntKind) : Rel Int := fun _ cs x => cs = [.int k x] /\ (Lit.int k x).wf = true
def RStr : Rel ByteArray := fun _ cs x => cs = [.string x] /\ x.size <= 140737488351232
def RSl {α : Type} (size : Nat) (R : Rel α) : Rel (List α) := fun w cs xs =>
 ∃ A cap, cs = [.slice A xs.length cap] /\ xs.length <= cap /\ cap <= 140737488351232 /\
  (0 < xs.length -> ∃ b off, A = some ⟨b, off, none⟩ /\ ∀ i (h : i < xs.length), ∃ es : List Value, es.length = size /\ (∀ j, j < size -> w.cell? ⟨b, off + i * size + j, none⟩ = es[j]?) /\ R w es xs[i])
theorem choose_list {α : Type} {p : Nat -> α -> Prop} : ∀ (n : Nat), (∀ i, i < n -> ∃ x, p i x) -> ∃ xs : List α, xs.length = n /\ ∀ i (h : i < xs.length), p i xs[i]
 | 0, _ => ⟨[], rfl, fun i h => absurd h (Nat.not_lt_zero _)⟩
 | n + 1, h => by
  obtain ⟨xs, hl, hx⟩ := choose_list n (fun i hi => h i (by omega))
  obtain ⟨y, hy⟩ := h n (by omega)
  refine ⟨xs ++ [y], by simp [hl], fun i hi => ?_⟩
  simp only [List.length_append, List.length_cons, List.length_nil] at hi
  by_cases e : i < xs.length
  . rw [List.getElem_append_left e]; exact hx i e
  . obtain rfl : i = n := by omega
    rw [List.getElem_append_right (by omega)]
    simpa [hl] using hy
section
variable {H : Type} {enc : TypeId × Value -> H} {P : Program} {w : World}
def Opens {α : Type} (enc : TypeId × Value -> H) (P : Program) (w : World) (t : TypeId) (R : Rel α) : Prop :=
 ∀ fuel cs y, DataW.trod enc P w 0 (fun _ => true) true fuel t cs = some y -> (∀ n ∈ y.1.weights P t, n <= reachBytes) -> ∃ x, R w cs x
theorem opens_int {t : TypeId} {k : IntKind} (ht : P.underlying t = some (.int k)) : Opens enc P w t (RInt k) := fun fuel cs y h _ => by
 obtain ⟨n, h1, _, h3⟩ := DataW.trod_int ht h
 exact ⟨n, h1, h3⟩
theorem opens_str {t : TypeId} (ht : P.underlying t = some .string) : Opens enc P w t RStr := fun fuel cs y h hw => by
 obtain ⟨n, h1, rfl, h3⟩ := DataW.trod_string ht h
 refine ⟨n, h1, ?_⟩
 have := hw n.data.toList.length (by simp [DataW.weights])
 simp only [Array.length_toList] at this
 exact this
theorem add_add0 (a : Addr) (i j : Nat) (h : a.spot = none) : (a.add i).add j = ⟨a.block, a.off + i + j, none⟩ := by
 obtain ⟨b, o, s⟩ := a
 simp only at h
 subst h
 unfold Addr.add
 by_cases h1 : i = 0 <;> by_cases h2 : j = 0 <;> simp [h1, h2]
theorem weights_all {t : TypeId} : ∀ {ds : List (DataW H)} {d : DataW H}, d ∈ ds -> ∀ n ∈ d.weights P t, n ∈ DataW.weightsAll P t ds
 | d0 :: ds, d, hd, n, hn => by
  simp only [DataW.weightsAll, List.mem_append]
  rcases List.mem_cons.1 hd with e | e
  . exact .inl (e ▸ hn)
  . exact .inr (weights_all e n hn)
theorem opens_sl {α : Type} {t e : TypeId} {size : Nat} {R : Rel α} (ht : P.underlying t = some (.slice e)) (hC : P.cellsOf e = size) (hs : 0 < size) (hB : 0 < P.bytesOf e) (he : Opens enc P w e R) : Opens enc P w t (RSl size R) := by
 intro fuel cs y h hw
 rcases DataW.trod_slice ht h with ⟨rfl, _⟩ | ⟨a, len, cap, elems, rest, n, _, rfl, rfl, _, hl, hm, hlen, hel, hsp, _⟩
 . exact ⟨[], none, 0, rfl, Nat.le_refl _, by omega, fun h => absurd h (Nat.lt_irrefl 0)⟩
 . have hcap : cap <= 140737488351232 := by
    have h1 := hw ((elems.length + rest.length) * P.bytesOf e) (by simp [DataW.weights, ht])
    have h2 := (hsp rfl).1
    have h3 : elems.length + rest.length <= (elems.length + rest.length) * P.bytesOf e := Nat.le_mul_of_pos_right _ hB
    unfold reachBytes at h1
    omega
   have hwe : ∀ y ∈ elems, ∀ n ∈ y.1.weights P e, n <= reachBytes := fun y hy n hn => by
    refine hw n ?_
    simp only [DataW.weights, ht, List.mem_cons, List.mem_append]
    exact .inr (.inl (weights_all (List.mem_map_of_mem hy) n hn))
   have each : ∀ i, i < len -> ∃ x, ∃ es : List Value, es.length = size /\ (∀ j, j < size -> w.cell? ((a.add (i * size)).add j) = es[j]?) /\ R w es x := by
    intro i hi
    have h1 := hel i hi
    rw [hC, List.getElem?_eq_getElem (by omega)] at h1
    obtain ⟨es, hes, htr⟩ := Option.bind_eq_some_iff.1 h1
    obtain ⟨_, h2, h3⟩ := World.cells?_some hes
    obtain ⟨x, hx⟩ := he _ _ _ htr (hwe _ (List.getElem_mem _))
    exact ⟨x, es, h2, h3, hx⟩
   obtain ⟨xs, hxl, hx⟩ := choose_list len each
   subst hxl
   refine ⟨xs, some a, cap, rfl, hl, hcap, fun h0 => ?_⟩
   have hsp : a.spot = none := by
    obtain ⟨es, h1, h2, _⟩ := hx 0 h0
    have := h2 0 hs
    rw [List.getElem?_eq_getElem (by omega)] at this
    have e : (a.add (0 * size)).add 0 = a := by simp [Addr.add]
    rw [e] at this
    exact World.cell?_spot this
   refine ⟨a.block, a.off, by obtain ⟨b, o, s⟩ := a; simp only at hsp; rw [hsp], fun i hi => ?_⟩
   obtain ⟨es, h1, h2, h3⟩ := hx i hi
   refine ⟨es, h1, fun j hj => ?_, h3⟩
   rw [<- add_add0 a _ _ hsp]
   exact h2 j hj
theorem struct_fields {t : TypeId} {fs : Array Field} {fuel : Nat} {cs : List Value} {y : DataW H × List MemPlace} (ht : P.underlying t = some (.struct fs))
 (h : DataW.trod enc P w 0 (fun _ => true) true fuel t cs = some y) (hw : ∀ n ∈ y.1.weights P t, n <= reachBytes) :
 cs.length = P.cellsOf t /\ ∀ (α : Type) (i : Nat) (f : Field) (R : Rel α), fs[i]? = some f -> Opens enc P w f.type R -> ∃ x, R w ((cs.drop f.offset).take (P.cellsOf f.type)) x := by
 obtain ⟨xs, n, _, rfl, hl, hxl, hf⟩ := DataW.trod_struct ht h
 refine ⟨hl, fun α i f R hi ho => ?_⟩
 have hil : i < xs.length := by
  rw [hxl]
  exact (Array.getElem?_eq_some_iff.1 hi).1
 have h1 := hf i f hi
 rw [List.getElem?_eq_getElem hil] at h1
 refine ho _ _ _ h1 fun m hm => hw m ?_
 simp only [DataW.weights, ht]
 exact DataW.weights_mem_each (j := i) (t := f.type) (d := xs[i].1) (by simp [List.getElem?_map, Array.getElem?_toList, hi]) (by simp [List.getElem?_map, List.getElem?_eq_getElem hil]) m hm
theorem arg_weights {ts : List TypeId} {ds : List (DataW H)} (h : (DataW.weightsEach P ts ds).all (· <= reachBytes) = true) {j : Nat} {t : TypeId} {d : DataW H} (ht : ts[j]? = some t) (hd : ds[j]? = some d) : ∀ n ∈ d.weights P t, n <= reachBytes :=
 fun n hn => by simpa using List.all_eq_true.1 h _ (DataW.weights_mem_each ht hd n hn)
end
theorem sl_at {α : Type} {size : Nat} {R : Rel α} {w : World} {A : Option Addr} {len cap : Nat} {xs : List α} (h : RSl size R w [.slice A len cap] xs) : len = xs.length /\ len <= cap /\ cap <= 140737488351232 /\
 (0 < len -> ∃ b off, A = some ⟨b, off, none⟩ /\ ∀ i (hi : i < xs.length), ∃ es : List Value, es.length = size /\ (∀ j, j < size -> w.cell? ⟨b, off + i * size + j, none⟩ = es[j]?) /\ R w es xs[i]) := by
 obtain ⟨A', cap', e, h1, h2, h3⟩ := h
 injection e with e
 injection e with e1 e2 e3
 subst e1; subst e2; subst e3
 exact ⟨rfl, h1, h2, h3⟩
end Go.Proofs.YtbiioaggilaebaaGreatDoor.Rd
namespace Go.Proofs.YtbiioaggilaebaaGreatDoor.Sha
open Go.RowKit B
def Cnt (n : Int) : Prop := n = 2 \/ n = 6 \/ n = 7 \/ n = 11 \/ n = 13 \/ n = 17 \/ n = 18 \/ n = 19 \/ n = 22 \/ n = 25
theorem ret_int {k : IntKind} {a b : Int} (h : a = b) : Ending.returned (.int k a) = .returned (.int k b) := by rw [h]
theorem ror_val (x : W) (n : Nat) : bits .or .u32 (nv x / 2 ^ n) ((nv x * 2 ^ (32 - n)) % 4294967296) = nv (ror x n) := by
 rw [nv_shr, nv_shl, nv_or]; rfl
theorem ror_val2 (x : W) (n : Nat) : bits .or .u32 ((nv x * 2 ^ (32 - n)) % 4294967296) (nv x / 2 ^ n) = nv (ror x n) := by
 rw [nv_shr, nv_shl, nv_or]
 unfold ror
 congr 1
 exact BitVec.or_comm _ _
theorem rot_2 (x : W) (w : World) :
 Calls Tryz.prog 158 #[.int .u32 (nv x), .int .i64 (-2)] w fun e w' => e = .returned (.int .u32 (nv (ror x 2))) /\ w = w' := by
 have hr := lh (ror_val2 x 2)
 have hk : bits .and .u64 (IntKind.u64.wrap (-2)) 31 = 30 := by decide +kernel
 generalize ror x 2 = y at *
 go_enter Tryz.func158, Tryz.ntmps158
 go_wp2
 go_ret
 exact ⟨ret_int (by first | exact hr.out | simpa [IntKind.wrap_u32] using hr.out), rfl⟩
theorem turn_2 (x : W) (w : World) :
 Calls Tryz.prog 141 #[.int .u32 (nv x), .int .i64 2] w fun e w' => e = .returned (.int .u32 (nv (ror x 2))) /\ w = w' := by
 have C := lh (rot_2 x w)
 go_enter Tryz.func141, Tryz.ntmps141
 go_wp2_with (go_at_call 158; refine (C.out).mono ?_; rintro e w' ⟨rfl, rfl⟩)
 go_ret
 exact ⟨rfl, rfl⟩
theorem rturn_2 (x : W) (w : World) :
 Calls Tryz.prog 92 #[.int .u32 (nv x), .int .i64 2] w fun e w' => e = .returned (.int .u32 (nv (ror x 2))) /\ ∃ n, w' = w.drewN n := by
 have hr := lh (ror_val x 2)
 generalize ror x 2 = y at *
 go_enter Tryz.func92, Tryz.ntmps92
 go_wp2
 go_quiet (fail)
 go_wp2
 go_ret
 exact ⟨ret_int (by first | exact hr.out | simpa [IntKind.wrap_u32] using hr.out), ⟨_, rfl⟩⟩
theorem rot_6 (x : W) (w : World) :
 Calls Tryz.prog 158 #[.int .u32 (nv x), .int .i64 (-6)] w fun e w' => e = .returned (.int .u32 (nv (ror x 6))) /\ w = w' := by
 have hr := lh (ror_val2 x 6)
 have hk : bits .and .u64 (IntKind.u64.wrap (-6)) 31 = 26 := by decide +kernel
 generalize ror x 6 = y at *
 go_enter Tryz.func158, Tryz.ntmps158
 go_wp2
 go_ret
 exact ⟨ret_int (by first | exact hr.out | simpa [IntKind.wrap_u32] using hr.out), rfl⟩
theorem turn_6 (x : W) (w : World) :
 Calls Tryz.prog 141 #[.int .u32 (nv x), .int .i64 6] w fun e w' => e = .returned (.int .u32 (nv (ror x 6))) /\ w = w' := by
 have C := lh (rot_6 x w)
 go_enter Tryz.func141, Tryz.ntmps141
 go_wp2_with (go_at_call 158; refine (C.out).mono ?_; rintro e w' ⟨rfl, rfl⟩)
 go_ret
 exact ⟨rfl, rfl⟩
theorem rturn_6 (x : W) (w : World) :
 Calls Tryz.prog 92 #[.int .u32 (nv x), .int .i64 6] w fun e w' => e = .returned (.int .u32 (nv (ror x 6))) /\ ∃ n, w' = w.drewN n := by
 have hr := lh (ror_val x 6)
 generalize ror x 6 = y at *
 go_enter Tryz.func92, Tryz.ntmps92
 go_wp2
 go_quiet (fail)
 go_wp2
 go_ret
 exact ⟨ret_int (by first | exact hr.out | simpa [IntKind.wrap_u32] using hr.out), ⟨_, rfl⟩⟩
theorem rot_7 (x : W) (w : World) :
 Calls Tryz.prog 158 #[.int .u32 (nv x), .int .i64 (-7)] w fun e w' => e = .returned (.int .u32 (nv (ror x 7))) /\ w = w' := by
 have hr := lh (ror_val2 x 7)
 have hk : bits .and .u64 (IntKind.u64.wrap (-7)) 31 = 25 := by decide +kernel
 generalize ror x 7 = y at *
 go_enter Tryz.func158, Tryz.ntmps158
 go_wp2
 go_ret
 exact ⟨ret_int (by first | exact hr.out | simpa [IntKind.wrap_u32] using hr.out), rfl⟩
theorem turn_7 (x : W) (w : World) :
 Calls Tryz.prog 141 #[.int .u32 (nv x), .int .i64 7] w fun e w' => e = .returned (.int .u32 (nv (ror x 7))) /\ w = w' := by
 have C := lh (rot_7 x w)
 go_enter Tryz.func141, Tryz.ntmps141
 go_wp2_with (go_at_call 158; refine (C.out).mono ?_; rintro e w' ⟨rfl, rfl⟩)
 go_ret
 exact ⟨rfl, rfl⟩
theorem rturn_7 (x : W) (w : World) :
 Calls Tryz.prog 92 #[.int .u32 (nv x), .int .i64 7] w fun e w' => e = .returned (.int .u32 (nv (ror x 7))) /\ ∃ n, w' = w.drewN n := by
 have hr := lh (ror_val x 7)
 generalize ror x 7 = y at *
 go_enter Tryz.func92, Tryz.ntmps92
 go_wp2
 go_quiet (fail)
 go_wp2
 go_ret
 exact ⟨ret_int (by first | exact hr.out | simpa [IntKind.wrap_u32] using hr.out), ⟨_, rfl⟩⟩
theorem rot_11 (x : W) (w : World) :
 Calls Tryz.prog 158 #[.int .u32 (nv x), .int .i64 (-11)] w fun e w' => e = .returned (.int .u32 (nv (ror x 11))) /\ w = w' := by
 have hr := lh (ror_val2 x 11)
 have hk : bits .and .u64 (IntKind.u64.wrap (-11)) 31 = 21 := by decide +kernel
 generalize ror x 11 = y at *
 go_enter Tryz.func158, Tryz.ntmps158
 go_wp2
 go_ret
 exact ⟨ret_int (by first | exact hr.out | simpa [IntKind.wrap_u32] using hr.out), rfl⟩
theorem turn_11 (x : W) (w : World) :
 Calls Tryz.prog 141 #[.int .u32 (nv x), .int .i64 11] w fun e w' => e = .returned (.int .u32 (nv (ror x 11))) /\ w = w' := by
 have C := lh (rot_11 x w)
 go_enter Tryz.func141, Tryz.ntmps141
 go_wp2_with (go_at_call 158; refine (C.out).mono ?_; rintro e w' ⟨rfl, rfl⟩)
 go_ret
 exact ⟨rfl, rfl⟩
theorem rturn_11 (x : W) (w : World) :
 Calls Tryz.prog 92 #[.int .u32 (nv x), .int .i64 11] w fun e w' => e = .returned (.int .u32 (nv (ror x 11))) /\ ∃ n, w' = w.drewN n := by
 have hr := lh (ror_val x 11)
 generalize ror x 11 = y at *
 go_enter Tryz.func92, Tryz.ntmps92
 go_wp2
 go_quiet (fail)
 go_wp2
 go_ret
 exact ⟨ret_int (by first | exact hr.out | simpa [IntKind.wrap_u32] using hr.out), ⟨_, rfl⟩⟩
theorem rot_13 (x : W) (w : World) :
 Calls Tryz.prog 158 #[.int .u32 (nv x), .int .i64 (-13)] w fun e w' => e = .returned (.int .u32 (nv (ror x 13))) /\ w = w' := by
 have hr := lh (ror_val2 x 13)
 have hk : bits .and .u64 (IntKind.u64.wrap (-13)) 31 = 19 := by decide +kernel
 generalize ror x 13 = y at *
 go_enter Tryz.func158, Tryz.ntmps158
 go_wp2
 go_ret
 exact ⟨ret_int (by first | exact hr.out | simpa [IntKind.wrap_u32] using hr.out), rfl⟩
theorem turn_13 (x : W) (w : World) :
 Calls Tryz.prog 141 #[.int .u32 (nv x), .int .i64 13] w fun e w' => e = .returned (.int .u32 (nv (ror x 13))) /\ w = w' := by
 have C := lh (rot_13 x w)
 go_enter Tryz.func141, Tryz.ntmps141
 go_wp2_with (go_at_call 158; refine (C.out).mono ?_; rintro e w' ⟨rfl, rfl⟩)
 go_ret
 exact ⟨rfl, rfl⟩
theorem rturn_13 (x : W) (w : World) :
 Calls Tryz.prog 92 #[.int .u32 (nv x), .int .i64 13] w fun e w' => e = .returned (.int .u32 (nv (ror x 13))) /\ ∃ n, w' = w.drewN n := by
 have hr := lh (ror_val x 13)
 generalize ror x 13 = y at *
 go_enter Tryz.func92, Tryz.ntmps92
 go_wp2
 go_quiet (fail)
 go_wp2
 go_ret
 exact ⟨ret_int (by first | exact hr.out | simpa [IntKind.wrap_u32] using hr.out), ⟨_, rfl⟩⟩
theorem rot_17 (x : W) (w : World) :
 Calls Tryz.prog 158 #[.int .u32 (nv x), .int .i64 (-17)] w fun e w' => e = .returned (.int .u32 (nv (ror x 17))) /\ w = w' := by
 have hr := lh (ror_val2 x 17)
 have hk : bits .and .u64 (IntKind.u64.wrap (-17)) 31 = 15 := by decide +kernel
 generalize ror x 17 = y at *
 go_enter Tryz.func158, Tryz.ntmps158
 go_wp2
 go_ret
 exact ⟨ret_int (by first | exact hr.out | simpa [IntKind.wrap_u32] using hr.out), rfl⟩
theorem turn_17 (x : W) (w : World) :
 Calls Tryz.prog 141 #[.int .u32 (nv x), .int .i64 17] w fun e w' => e = .returned (.int .u32 (nv (ror x 17))) /\ w = w' := by
 have C := lh (rot_17 x w)
 go_enter Tryz.func141, Tryz.ntmps141
 go_wp2_with (go_at_call 158; refine (C.out).mono ?_; rintro e w' ⟨rfl, rfl⟩)
 go_ret
 exact ⟨rfl, rfl⟩
theorem rturn_17 (x : W) (w : World) :
 Calls Tryz.prog 92 #[.int .u32 (nv x), .int .i64 17] w fun e w' => e = .returned (.int .u32 (nv (ror x 17))) /\ ∃ n, w' = w.drewN n := by
 have hr := lh (ror_val x 17)
 generalize ror x 17 = y at *
 go_enter Tryz.func92, Tryz.ntmps92
 go_wp2
 go_quiet (fail)
 go_wp2
 go_ret
 exact ⟨ret_int (by first | exact hr.out | simpa [IntKind.wrap_u32] using hr.out), ⟨_, rfl⟩⟩
theorem rot_18 (x : W) (w : World) :
 Calls Tryz.prog 158 #[.int .u32 (nv x), .int .i64 (-18)] w fun e w' => e = .returned (.int .u32 (nv (ror x 18))) /\ w = w' := by
 have hr := lh (ror_val2 x 18)
 have hk : bits .and .u64 (IntKind.u64.wrap (-18)) 31 = 14 := by decide +kernel
 generalize ror x 18 = y at *
 go_enter Tryz.func158, Tryz.ntmps158
 go_wp2
 go_ret
 exact ⟨ret_int (by first | exact hr.out | simpa [IntKind.wrap_u32] using hr.out), rfl⟩
theorem turn_18 (x : W) (w : World) :
 Calls Tryz.prog 141 #[.int .u32 (nv x), .int .i64 18] w fun e w' => e = .returned (.int .u32 (nv (ror x 18))) /\ w = w' := by
 have C := lh (rot_18 x w)
 go_enter Tryz.func141, Tryz.ntmps141
 go_wp2_with (go_at_call 158; refine (C.out).mono ?_; rintro e w' ⟨rfl, rfl⟩)
 go_ret
 exact ⟨rfl, rfl⟩
theorem rturn_18 (x : W) (w : World) :
 Calls Tryz.prog 92 #[.int .u32 (nv x), .int .i64 18] w fun e w' => e = .returned (.int .u32 (nv (ror x 18))) /\ ∃ n, w' = w.drewN n := by
 have hr := lh (ror_val x 18)
 generalize ror x 18 = y at *
 go_enter Tryz.func92, Tryz.ntmps92
 go_wp2
 go_quiet (fail)
 go_wp2
 go_ret
 exact ⟨ret_int (by first | exact hr.out | simpa [IntKind.wrap_u32] using hr.out), ⟨_, rfl⟩⟩
theorem rot_19 (x : W) (w : World) :
 Calls Tryz.prog 158 #[.int .u32 (nv x), .int .i64 (-19)] w fun e w' => e = .returned (.int .u32 (nv (ror x 19))) /\ w = w' := by
 have hr := lh (ror_val2 x 19)
 have hk : bits .and .u64 (IntKind.u64.wrap (-19)) 31 = 13 := by decide +kernel
 generalize ror x 19 = y at *
 go_enter Tryz.func158, Tryz.ntmps158
 go_wp2
 go_ret
 exact ⟨ret_int (by first | exact hr.out | simpa [IntKind.wrap_u32] using hr.out), rfl⟩
theorem turn_19 (x : W) (w : World) :
 Calls Tryz.prog 141 #[.int .u32 (nv x), .int .i64 19] w fun e w' => e = .returned (.int .u32 (nv (ror x 19))) /\ w = w' := by
 have C := lh (rot_19 x w)
 go_enter Tryz.func141, Tryz.ntmps141
 go_wp2_with (go_at_call 158; refine (C.out).mono ?_; rintro e w' ⟨rfl, rfl⟩)
 go_ret
 exact ⟨rfl, rfl⟩
theorem rturn_19 (x : W) (w : World) :
 Calls Tryz.prog 92 #[.int .u32 (nv x), .int .i64 19] w fun e w' => e = .returned (.int .u32 (nv (ror x 19))) /\ ∃ n, w' = w.drewN n := by
 have hr := lh (ror_val x 19)
 generalize ror x 19 = y at *
 go_enter Tryz.func92, Tryz.ntmps92
 go_wp2
 go_quiet (fail)
 go_wp2
 go_ret
 exact ⟨ret_int (by first | exact hr.out | simpa [IntKind.wrap_u32] using hr.out), ⟨_, rfl⟩⟩
theorem rot_22 (x : W) (w : World) :
 Calls Tryz.prog 158 #[.int .u32 (nv x), .int .i64 (-22)] w fun e w' => e = .returned (.int .u32 (nv (ror x 22))) /\ w = w' := by
 have hr := lh (ror_val2 x 22)
 have hk : bits .and .u64 (IntKind.u64.wrap (-22)) 31 = 10 := by decide +kernel
 generalize ror x 22 = y at *
 go_enter Tryz.func158, Tryz.ntmps158
 go_wp2
 go_ret
 exact ⟨ret_int (by first | exact hr.out | simpa [IntKind.wrap_u32] using hr.out), rfl⟩
theorem turn_22 (x : W) (w : World) :
 Calls Tryz.prog 141 #[.int .u32 (nv x), .int .i64 22] w fun e w' => e = .returned (.int .u32 (nv (ror x 22))) /\ w = w' := by
 have C := lh (rot_22 x w)
 go_enter Tryz.func141, Tryz.ntmps141
 go_wp2_with (go_at_call 158; refine (C.out).mono ?_; rintro e w' ⟨rfl, rfl⟩)
 go_ret
 exact ⟨rfl, rfl⟩
theorem rturn_22 (x : W) (w : World) :
 Calls Tryz.prog 92 #[.int .u32 (nv x), .int .i64 22] w fun e w' => e = .returned (.int .u32 (nv (ror x 22))) /\ ∃ n, w' = w.drewN n := by
 have hr := lh (ror_val x 22)
 generalize ror x 22 = y at *
 go_enter Tryz.func92, Tryz.ntmps92
 go_wp2
 go_quiet (fail)
 go_wp2
 go_ret
 exact ⟨ret_int (by first | exact hr.out | simpa [IntKind.wrap_u32] using hr.out), ⟨_, rfl⟩⟩
theorem rot_25 (x : W) (w : World) :
 Calls Tryz.prog 158 #[.int .u32 (nv x), .int .i64 (-25)] w fun e w' => e = .returned (.int .u32 (nv (ror x 25))) /\ w = w' := by
 have hr := lh (ror_val2 x 25)
 have hk : bits .and .u64 (IntKind.u64.wrap (-25)) 31 = 7 := by decide +kernel
 generalize ror x 25 = y at *
 go_enter Tryz.func158, Tryz.ntmps158
 go_wp2
 go_ret
 exact ⟨ret_int (by first | exact hr.out | simpa [IntKind.wrap_u32] using hr.out), rfl⟩
theorem turn_25 (x : W) (w : World) :
 Calls Tryz.prog 141 #[.int .u32 (nv x), .int .i64 25] w fun e w' => e = .returned (.int .u32 (nv (ror x 25))) /\ w = w' := by
 have C := lh (rot_25 x w)
 go_enter Tryz.func141, Tryz.ntmps141
 go_wp2_with (go_at_call 158; refine (C.out).mono ?_; rintro e w' ⟨rfl, rfl⟩)
 go_ret
 exact ⟨rfl, rfl⟩
theorem rturn_25 (x : W) (w : World) :
 Calls Tryz.prog 92 #[.int .u32 (nv x), .int .i64 25] w fun e w' => e = .returned (.int .u32 (nv (ror x 25))) /\ ∃ n, w' = w.drewN n := by
 have hr := lh (ror_val x 25)
 generalize ror x 25 = y at *
 go_enter Tryz.func92, Tryz.ntmps92
 go_wp2
 go_quiet (fail)
 go_wp2
 go_ret
 exact ⟨ret_int (by first | exact hr.out | simpa [IntKind.wrap_u32] using hr.out), ⟨_, rfl⟩⟩
theorem turn_any (x : W) (n : Int) (hn : Cnt n) (w : World) :
 Calls Tryz.prog 141 #[.int .u32 (nv x), .int .i64 n] w fun e w' => e = .returned (.int .u32 (nv (ror x n.toNat))) /\ w = w' := by
 rcases hn with rfl | rfl | rfl | rfl | rfl | rfl | rfl | rfl | rfl | rfl
 . exact turn_2 x w
 . exact turn_6 x w
 . exact turn_7 x w
 . exact turn_11 x w
 . exact turn_13 x w
 . exact turn_17 x w
 . exact turn_18 x w
 . exact turn_19 x w
 . exact turn_22 x w
 . exact turn_25 x w
theorem rturn_any (x : W) (n : Int) (hn : Cnt n) (w : World) :
 Calls Tryz.prog 92 #[.int .u32 (nv x), .int .i64 n] w fun e w' => e = .returned (.int .u32 (nv (ror x n.toNat))) /\ ∃ n, w' = w.drewN n := by
 rcases hn with rfl | rfl | rfl | rfl | rfl | rfl | rfl | rfl | rfl | rfl
 . exact rturn_2 x w
 . exact rturn_6 x w
 . exact rturn_7 x w
 . exact rturn_11 x w
 . exact rturn_13 x w
 . exact rturn_17 x w
 . exact rturn_18 x w
 . exact rturn_19 x w
 . exact rturn_22 x w
 . exact rturn_25 x w
end Go.Proofs.YtbiioaggilaebaaGreatDoor.Sha
namespace Go.Proofs.YtbiioaggilaebaaGreatDoor.Bld
open Go Go.RowKit B
def WAt (B g : Nat) (l : List UInt8) (e d : Value) (w : World) : Prop :=
 B <= g /\ ∃ p v, (p = .pointer none \/ p = .pointer (some ⟨g, 0, none⟩)) /\ w.heap[g]? = some (.cells #[p, v, e, d] 129 (0, 0)) /\ w.ownsRow B 5 1 v l.length (bc l)
def Oth (g : Nat) (w w' : World) : Prop := ∀ (k : Nat) (cs : Array Value) (ty : TypeId) (fz : Nat × Nat), k ≠ g -> ty ≠ 5 -> w.heap[k]? = some (.cells cs ty fz) -> w'.heap[k]? = some (.cells cs ty fz)
theorem Oth.refl (g : Nat) (w : World) : Oth g w w := fun _ _ _ _ _ _ h => h
theorem Oth.trans {g : Nat} {a b c : World} (h : Oth g a b) (k : Oth g b c) : Oth g a c := fun i cs ty fz h1 h2 h3 => k i cs ty fz h1 h2 (h i cs ty fz h1 h2 h3)
theorem Oth.below {g : Nat} {w w' : World} (h : Below w.heap.size w w') : Oth g w w' := fun k cs ty fz _ _ h3 => (h.block k (heap_lt h3)).trans h3
theorem Oth.alloc (g : Nat) (w : World) (o : Obj) : Oth g w (w.alloc o) := Oth.below ((Below.refl _ _).alloc (Nat.le_refl _) _)
theorem Oth.set (g o : Nat) (w : World) (u : Value) : Oth g w (w.setCell ⟨g, o, none⟩ u) := fun k cs ty fz h1 _ h3 => by
 rw [Below.heap_setCell _ _ _ _ (by simpa using h1)]; exact h3
theorem Oth.grown {g : Nat} {w w' : World} {base size n : Nat} {v : Value} {xs : List Value} (ho : w.ownsRow base 5 size v n xs) (hg : w.grownBy w' v.ownBlock) : Oth g w w' := fun k cs ty fz _ h2 h3 => by
 rw [hg.block k (heap_lt h3) (fun e => ?_)]
 . exact h3
 . rcases ho.2 with ⟨rfl, _⟩ | ⟨r, cap, cur, rfl, hr, hh, _⟩
   . simp [Value.ownBlock] at e
   . have : k = r := by simpa [Value.ownBlock] using e
     subst this
     rw [hh] at h3
     injection h3 with h3
     injection h3 with _ h3 _
     exact h2 h3.symm
theorem own_far {w : World} {base size n g : Nat} {v : Value} {xs : List Value} {cs : Array Value} {fz : Nat × Nat} (ho : w.ownsRow base 5 size v n xs) (hg : w.heap[g]? = some (.cells cs 129 fz)) : v.ownBlock ≠ some g := by
 intro h
 rcases ho.2 with ⟨rfl, _⟩ | ⟨k, cap, cur, rfl, hk, hh, _⟩
 . simp [Value.ownBlock] at h
 . have : k = g := by simpa [Value.ownBlock] using h
   subst this
   rw [hh] at hg
   injection hg with hg
   injection hg with _ hg _
   exact absurd hg (by decide)
theorem own_slice {w : World} {base size n : Nat} {e : TypeId} {v : Value} {xs : List Value} (ho : w.ownsRow base e size v n xs) : ∃ ao n' cap, v = .slice ao n' cap := by
 rcases ho.2 with ⟨hv, _⟩ | ⟨g', cap, cur, hv, _⟩
 . exact ⟨_, _, _, hv⟩
 . exact ⟨_, _, _, hv⟩
theorem after_row {w1 w2 : World} {base n size g : Nat} {p v e d : Value} {xs : List Value} (hg : w1.heap[g]? = some (.cells #[p, v, e, d] 129 (0, 0))) (ho : w1.ownsRow base 5 size v n xs) (hgrow : w1.grownBy w2 v.ownBlock) :
 w2.heap[g]? = some (.cells #[p, v, e, d] 129 (0, 0)) /\ w2.cell? ⟨g, 1, none⟩ = some v /\ w2.frozen? ⟨g, 1, none⟩ = false := by
 have h : w2.heap[g]? = some (.cells #[p, v, e, d] 129 (0, 0)) := by
  rw [hgrow.block g (heap_lt hg) (fun e => own_far ho hg e.symm)]
  exact hg
 exact ⟨h, by rw [cell_of h]; rfl, fr_of h 1⟩
theorem after_row1 {w1 w2 : World} {base n size g : Nat} {p v e d : Value} {xs : List Value} {o : Obj} (hg : w1.heap[g]? = some (.cells #[p, v, e, d] 129 (0, 0))) (ho : w1.ownsRow base 5 size v n xs) (hgrow : (w1.alloc o).grownBy w2 v.ownBlock) :
 w2.heap[g]? = some (.cells #[p, v, e, d] 129 (0, 0)) /\ w2.cell? ⟨g, 1, none⟩ = some v /\ w2.frozen? ⟨g, 1, none⟩ = false :=
 after_row (by rw [heap_alloc_lt _ _ _ (heap_lt hg)]; exact hg) (ho.alloc _) hgrow
theorem bsize : (Tryz.prog.info? 127).map (·.size) = some 2 := by kernel_rfl
theorem blies : liesAt Tryz.prog Tryz.prog.depth 129 (4 / Tryz.prog.cellsOf 129) 0 127 1 = true := by kernel_rfl
theorem len_any (B g : Nat) (l : List UInt8) (e d : Value) (w : World) (h : WAt B g l e d w) :
 Calls Tryz.prog 79 #[.pointer (some ⟨g, 0, none⟩)] w fun ev w' => ev = .returned (.int .i64 l.length) /\ w' = w := by
 obtain ⟨hB, p, v, hp, hg, ho⟩ := h
 obtain ⟨A, c, rfl⟩ : ∃ A c, v = .slice A l.length c := by
  rcases ho.2 with ⟨rfl, h0⟩ | ⟨k, cap, cur, rfl, _⟩
  . exact ⟨none, 0, by rw [h0]⟩
  . exact ⟨_, _, rfl⟩
 have c1 : w.cell? ⟨g, 1, none⟩ = some (.slice A l.length c) := by rw [cell_of hg]; rfl
 clear ho hg hp
 go_enter Tryz.func79, Tryz.ntmps79
 go_wp2
 go_ret
 exact ⟨rfl, rfl⟩
theorem check_used (g : Nat) (w : World) (h0 : w.cell? ⟨g, 0, none⟩ = some (.pointer (some ⟨g, 0, none⟩))) :
 Calls Tryz.prog 150 #[.pointer (some ⟨g, 0, none⟩)] w fun ev w' => ev = .returned (.tuple #[]) /\ w' = w := by
 obtain ⟨j, hj, _⟩ := Option.map_eq_some_iff.1 bsize
 go_enter Tryz.func150, Tryz.ntmps150
 go_wp2
 rw [Lib.run_neq_ptr_same w _ Tryz.underlying125 hj]
 go_wp2
 go_end0
 exact ⟨rfl, rfl⟩
theorem check_fresh (g : Nat) (w : World) (h0 : w.cell? ⟨g, 0, none⟩ = some (.pointer none)) (hsh : w.shape? g = some (129, 4)) (hfz : w.frozen? ⟨g, 0, none⟩ = false) :
 Calls Tryz.prog 150 #[.pointer (some ⟨g, 0, none⟩)] w fun ev w' => ev = .returned (.tuple #[]) /\ w' = w.setCell ⟨g, 0, none⟩ (.pointer (some ⟨g, 0, none⟩)) := by
 obtain ⟨j, hj, hjs⟩ := Option.map_eq_some_iff.1 bsize
 go_enter Tryz.func150, Tryz.ntmps150
 go_wp2
 rw [Lib.run_to_unsafe w ⟨g, 0, none⟩ Tryz.underlying125 Tryz.underlying101 hj (by rw [hjs]; decide) hsh (Nat.zero_lt_succ 3)]
 simp only [Result.andThen]
 rw [Oper.upon_value]
 go_wp2
 rw [run_callFunc_extern Tryz.func175 (by kernel_rfl) (by kernel_rfl) (by kernel_rfl) (e := Extern.AbiNoEscape.same) (by kernel_rfl)]
 rw [Lib.run_noEscape]
 simp only [Result.andThen]
 rw [Oper.upon_value]
 go_wp2
 rw [Lib.run_from_unsafe w ⟨g, 0, none⟩ Tryz.underlying101 Tryz.underlying125 hj hsh blies]
 simp only [Result.andThen]
 rw [Oper.upon_value]
 go_wp2
 go_end0
 exact ⟨rfl, rfl⟩
def WUsed (B g : Nat) (l : List UInt8) (e d : Value) (w : World) : Prop :=
 B <= g /\ ∃ v, w.heap[g]? = some (.cells #[.pointer (some ⟨g, 0, none⟩), v, e, d] 129 (0, 0)) /\ w.ownsRow B 5 1 v l.length (bc l)
theorem own_set {w : World} {base g n : Nat} {v u : Value} {xs : List Value} {cs : Array Value} {fz : Nat × Nat} {o : Nat} (ho : w.ownsRow base 5 1 v n xs) (hg : w.heap[g]? = some (.cells cs 129 fz)) : (w.setCell ⟨g, o, none⟩ u).ownsRow base 5 1 v n xs :=
 ho.kept (row := some g) ⟨rfl, rfl, rfl, by simp [World.setCell], fun k _ hk => Below.heap_setCell _ _ _ _ (fun e => hk (by simp [e]))⟩ (Or.inr (own_far ho hg))
theorem check_any (B g : Nat) (l : List UInt8) (e d : Value) (w : World) (h : WAt B g l e d w) :
 Calls Tryz.prog 150 #[.pointer (some ⟨g, 0, none⟩)] w fun ev w' => ev = .returned (.tuple #[]) /\ WUsed B g l e d w' /\ Below B w w' /\ Oth g w w' := by
 obtain ⟨hB, p, v, rfl | rfl, hg, ho⟩ := h
 . refine (check_fresh g w (by rw [cell_of hg]; rfl) (by simp [World.shape?, hg]) (fr_of hg 0)).mono ?_
   rintro ev w' ⟨rfl, rfl⟩
   refine ⟨rfl, ⟨hB, v, ?_, own_set ho hg⟩, (Below.refl _ _).setCell (p := ⟨g, 0, none⟩) hB _, Oth.set _ _ _ _⟩
   rw [heap_set_some hg]
   rfl
 . refine (check_used g w (by rw [cell_of hg]; rfl)).mono ?_
   rintro ev w' ⟨rfl, rfl⟩
   exact ⟨rfl, ⟨hB, v, hg, ho⟩, Below.refl _ _, Oth.refl _ _⟩
theorem used_put {B g : Nat} {l : List UInt8} {e d p v v' : Value} {w : World} (hB : B <= g) (hp : p = .pointer none \/ p = .pointer (some ⟨g, 0, none⟩)) (hg : w.heap[g]? = some (.cells #[p, v, e, d] 129 (0, 0))) (ho : w.ownsRow B 5 1 v' l.length (bc l)) :
 WAt B g l e d (w.setCell ⟨g, 1, none⟩ v') := by
 refine ⟨hB, p, v', hp, ?_, own_set ho hg⟩
 rw [heap_set_some hg]
 rfl
theorem string_any (B g : Nat) (l : List UInt8) (e d : Value) (s : ByteArray) (w : World) (h : WAt B g l e d w) (hlen : l.length + s.size <= 140737488355328) (hBw : B <= w.heap.size) :
 Calls Tryz.prog 122 #[.pointer (some ⟨g, 0, none⟩), .string s] w fun ev w' => ev = .returned (.tuple #[.int .i64 s.size, .nilIface]) /\ WAt B g (l ++ s.data.toList) e d w' /\ Below B w w' /\ Oth g w w' := by
 obtain ⟨i8, hi8, hz8, hs8, hb8⟩ := info8
 have C := lh (check_any B g l e d w h)
 clear h
 go_enter Tryz.func122, Tryz.ntmps122
 go_wp2_with fail
 refine (C.out).mono ?_
 rintro ev w1 ⟨rfl, ⟨hB, v, hg, ho⟩, hb1, hoth⟩
 replace hoth := lh hoth
 have c1 : w1.cell? ⟨g, 1, none⟩ = some v := by rw [cell_of hg]; rfl
 have hoH := lh ho
 have hgH := lh hg
 have hb1H := lh hb1
 clear ho hg hb1 C
 go_wp2_with (at_builtin; refine Lib.wpList_append_own_string _ (by rfl) _ _ 69 9 (by rfl) B 5 i8 Tryz.underlying69 Tryz.underlying9 hi8 hz8 hs8 hb8 _ _ _ (by rfl) hoH.out s (by rfl) (by unfold maxLen; omega) (by omega) (by have := hb1H.out.size; omega) ?_; intro v' w2 hown' hgrow hniff; clear hniff; obtain ⟨ao, n', cap, rfl⟩ := own_slice hown'; obtain ⟨hg2', d1, f1⟩ := after_row hgH.out hoH.out hgrow; have hg2 := lh hg2'; have hownH := lh hown'; have hgrowH := lh hgrow; clear hown' hgrow hg2')
 have hbl := lh (hb1H.out.grown hgrowH.out (by have := hb1H.out.size; omega) (fun k hk => (hoH.out.lt k hk).1))
 have hln : (l ++ s.data.toList).length = l.length + s.size := by rw [List.length_append, Array.length_toList]; rfl
 have hput := lh (fun u (hu : w2.ownsRow B 5 1 u (l ++ s.data.toList).length (bc (l ++ s.data.toList))) => used_put (e := e) (d := d) hB (.inr rfl) hg2.out hu)
 rw [hln, bc_append] at hput
 go_ret2
 refine ⟨rfl, hput.out _ hownH.out, hbl.out.setCell (p := ⟨g, 1, none⟩) hB _, (hoth.out.trans (Oth.grown hoH.out hgrowH.out)).trans (Oth.set _ _ _ _)⟩
theorem byte_any (B g : Nat) (l : List UInt8) (e d : Value) (c : UInt8) (w : World) (h : WAt B g l e d w) (hlen : l.length + 1 <= 140737488355328) (hBw : B <= w.heap.size) :
 Calls Tryz.prog 123 #[.pointer (some ⟨g, 0, none⟩), .int .u8 (c.toNat : Int)] w fun ev w' => ev = .returned .nilIface /\ WAt B g (l ++ [c]) e d w' /\ Below B w w' /\ Oth g w w' := by
 obtain ⟨i8, hi8, hz8, hs8, hb8⟩ := info8
 have C := lh (check_any B g l e d w h)
 clear h
 go_enter Tryz.func123, Tryz.ntmps123
 go_wp2_with fail
 refine (C.out).mono ?_
 rintro ev w1 ⟨rfl, ⟨hB, v, hg, ho⟩, hb1, hoth⟩
 replace hoth := lh hoth
 have c1 : w1.cell? ⟨g, 1, none⟩ = some v := by rw [cell_of hg]; rfl
 have hoH := lh ho
 have hgH := lh hg
 have hb1H := lh hb1
 clear ho hg hb1 C
 go_wp2_with (at_builtin; refine wpList_append_own _ (by rfl) _ _ 69 (by rfl) B 5 i8 _ 1 1 Tryz.underlying69 hi8 hz8 hs8 hb8 (by rfl) (by decide) _ _ _ (by rfl) (hoH.out.alloc _) ⟨w1.heap.size, 0, none⟩ 1 1 [.int .u8 (c.toNat : Int)] (by rfl) (by rfl) (World.news_of_block (heap_alloc_at w1 _)) (by simp [Value.oneCell']) (by unfold maxLen; omega) (by omega) (by have := hb1H.out.size; simp; omega) ?_; intro v' w2 hown' hgrow hniff; clear hniff; obtain ⟨ao, n', cap, rfl⟩ := own_slice hown'; obtain ⟨hg2', d1, f1⟩ := after_row1 hgH.out hoH.out hgrow; have hg2 := lh hg2'; have hownH := lh hown'; have hgrowH := lh hgrow; clear hown' hgrow hg2')
 have hbl := lh ((hb1H.out.alloc (by have := hb1H.out.size; omega) _).grown hgrowH.out (by have := hb1H.out.size; simp; omega) (fun k hk => (hoH.out.lt k hk).1))
 have hput := lh (fun u (hu : w2.ownsRow B 5 1 u (l ++ [c]).length (bc (l ++ [c]))) => used_put (e := e) (d := d) hB (.inr rfl) hg2.out hu)
 rw [show (l ++ [c]).length = l.length + 1 from by simp, bc_append] at hput
 go_ret
 refine ⟨rfl, hput.out _ hownH.out, hbl.out.setCell (p := ⟨g, 1, none⟩) hB _, ((hoth.out.trans (Oth.alloc _ _ _)).trans (Oth.grown (hoH.out.alloc _) hgrowH.out)).trans (Oth.set _ _ _ _)⟩
theorem text_any (B g : Nat) (l : List UInt8) (e d : Value) (w : World) (h : WAt B g l e d w) (h0 : l ≠ []) :
 Calls Tryz.prog 80 #[.pointer (some ⟨g, 0, none⟩)] w fun ev w' => ev = .returned (.string ⟨l.toArray⟩) /\ Below B w w' := by
 obtain ⟨hB, p, v, hp, hg, hown⟩ := h
 have hl0 : l.length ≠ 0 := by simpa using h0
 obtain ⟨k, cap, cur, rfl, hbk, hk, hnc, hcm, hcs, htake⟩ : ∃ k cap cur, v = .slice (some ⟨k, 0, none⟩) l.length cap /\ B <= k /\ w.heap[k]? = some (.cells cur 5 (0, 0)) /\ l.length <= cap /\ cap <= maxLen /\ cur.size = cap * 1 /\ cur.toList.take (l.length * 1) = bc l := by
  rcases hown.2 with ⟨_, hz⟩ | ⟨k, cap, cur, hv, r⟩
  . exact absurd hz hl0
  . exact ⟨k, cap, cur, hv, r⟩
 have c1 : w.drew.cell? ⟨g, 1, none⟩ = some (.slice (some ⟨k, 0, none⟩) l.length cap) := by
  have : w.drew.heap[g]? = some (.cells #[p, .slice (some ⟨k, 0, none⟩) l.length cap, e, d] 129 (0, 0)) := hg
  rw [cell_of this]; rfl
 have hSD : (Builtin.unsafeSliceData_ #[69] 190 #[.slice (some ⟨k, 0, none⟩) l.length cap]).run Tryz.prog w.drew = .ok (.pointer (some ⟨k, 0, none⟩)) w.drew :=
  Lib.run_unsafeSliceData_row _ _ _ _ _ _ (by omega)
 have hUS : (Builtin.unsafeString_ #[190, 3] 9 #[.pointer (some ⟨k, 0, none⟩), .int .i64 l.length]).run Tryz.prog w.drew = .ok (.string ⟨l.toArray⟩) (w.drew.freeze ⟨k, 0, none⟩ l.length) := by
  refine Lib.run_unsafeString_row w.drew 190 3 9 5 Tryz.underlying190 (by kernel_rfl) k cur.size (by have hg' : w.drew.heap[k]? = some (.cells cur 5 (0, 0)) := hk; simp [World.shape?, hg']) l h0 (by omega) (by unfold maxLen at hcm; omega) ?_
  intro j x hx
  have := hown.cells (g := k) rfl j (.int .u8 x.toNat) (by simp [bc, hx])
  exact this
 clear htake hown hg hk
 go_enter Tryz.func80, Tryz.ntmps80
 go_wp2_with fail
 go_region
 all_goals (go_wp2_with fail; go_ret; exact ⟨rfl, Lib.below_freeze (Below.drew (Below.refl B w)) (p := ⟨k, 0, none⟩) hbk _⟩)
end Go.Proofs.YtbiioaggilaebaaGreatDoor.Bld
