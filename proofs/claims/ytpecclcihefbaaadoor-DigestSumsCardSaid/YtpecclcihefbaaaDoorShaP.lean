/- Words of 32 bits as the walk's numbers. No program. -/
import Derived.Test.YtpecclcihefbaaaDoorBase
import Derived.Laws.BitsLemmas
import Derived.Laws.Bits64
import Derived.Laws.BitsAll
import Derived.Laws.BitsAllLaws
set_option linter.unusedVariables false
set_option linter.unusedSimpArgs false
namespace Go.Proofs.YtpecclcihefbaaaDoor.Sha
open Go.RowKit Go.Proofs.YtpecclcihefbaaaDoor.B

abbrev W := BitVec 32
/-- A word's number. -/
def nv (x : W) : Int := (x.toNat : Int)
theorem nv_lo (x : W) : 0 ≤ nv x := Int.natCast_nonneg _
theorem nv_hi (x : W) : nv x < 4294967296 := by have := x.isLt; unfold nv; omega
theorem nv_inj {x y : W} (h : nv x = nv y) : x = y := BitVec.eq_of_toNat_eq (by unfold nv at h; omega)
theorem nv_of (n : Nat) (h : n < 4294967296) : nv (BitVec.ofNat 32 n) = (n : Int) := by
  unfold nv; rw [BitVec.toNat_ofNat, Nat.mod_eq_of_lt (by simpa using h)]

theorem nv_xor (a b : W) : bits .xor .u32 (nv a) (nv b) = nv (a ^^^ b) := by
  unfold nv; rw [u32_xor_nat _ _ (by have := a.isLt; omega) (by have := b.isLt; omega), BitVec.toNat_xor]
theorem nv_and (a b : W) : bits .and .u32 (nv a) (nv b) = nv (a &&& b) := by
  unfold nv; rw [u32_and_nat _ _ (by have := a.isLt; omega) (by have := b.isLt; omega), BitVec.toNat_and]
theorem nv_or (a b : W) : bits .or .u32 (nv a) (nv b) = nv (a ||| b) := by
  unfold nv; rw [u32_or_nat _ _ (by have := a.isLt; omega) (by have := b.isLt; omega), BitVec.toNat_or]
theorem nv_add (a b : W) : (nv a + nv b) % 4294967296 = nv (a + b) := by
  unfold nv; rw [BitVec.toNat_add]; omega
theorem nv_addw (a b : W) : IntKind.u32.wrap (nv a + nv b) = nv (a + b) := by rw [IntKind.wrap_u32, nv_add]
theorem nv_shr (a : W) (k : Nat) : nv a / 2 ^ k = nv (a >>> k) := by
  unfold nv
  rw [BitVec.toNat_ushiftRight, Nat.shiftRight_eq_div_pow]
  simp
theorem nv_shl (a : W) (k : Nat) : (nv a * 2 ^ k) % 4294967296 = nv (a <<< k) := by
  unfold nv
  rw [BitVec.toNat_shiftLeft, Nat.shiftLeft_eq]
  simp
theorem nv_byte (a : W) (c : UInt8) : bits .or .u32 (nv a) (c.toNat : Int) = nv (a ||| BitVec.ofNat 32 c.toNat) := by
  have := c.toNat_lt
  rw [← nv_or, nv_of _ (by omega)]

/-- Turned right. -/
def ror (x : W) (n : Nat) : W := (x >>> n) ||| (x <<< (32 - n))

def s0 (x : W) : W := ror x 7 ^^^ ror x 18 ^^^ (x >>> 3)
def s1 (x : W) : W := ror x 17 ^^^ ror x 19 ^^^ (x >>> 10)
def S0 (a : W) : W := ror a 2 ^^^ ror a 13 ^^^ ror a 22
def S1 (e : W) : W := ror e 6 ^^^ ror e 11 ^^^ ror e 25
def ch (e f g : W) : W := (e &&& f) ^^^ (~~~e &&& g)
def maj (a b c : W) : W := (a &&& b) ^^^ (a &&& c) ^^^ (b &&& c)
theorem ch_or (e f g : W) : (e &&& f) ||| (~~~e &&& g) = ch e f g := by
  unfold ch
  apply BitVec.eq_of_getLsbD_eq
  intro i hi
  simp only [BitVec.getLsbD_or, BitVec.getLsbD_and, BitVec.getLsbD_xor, BitVec.getLsbD_not, hi, decide_true, Bool.true_and]
  cases e.getLsbD i <;> cases f.getLsbD i <;> cases g.getLsbD i <;> rfl
theorem maj_or (a b c : W) : ((a &&& b) ||| (a &&& c)) ||| (b &&& c) = maj a b c := by
  unfold maj
  apply BitVec.eq_of_getLsbD_eq
  intro i hi
  simp only [BitVec.getLsbD_or, BitVec.getLsbD_and, BitVec.getLsbD_xor]
  cases a.getLsbD i <;> cases b.getLsbD i <;> cases c.getLsbD i <;> rfl

/-- The next word of the schedule l (of 16 words and more). -/
def nextW (l : List W) : W := l.getD (l.length - 16) 0 + s0 (l.getD (l.length - 15) 0) + l.getD (l.length - 7) 0 + s1 (l.getD (l.length - 2) 0)
def sched (m : List W) : Nat → List W
  | 0 => m
  | n + 1 => sched m n ++ [nextW (sched m n)]
theorem sched_length (m : List W) (n : Nat) : (sched m n).length = m.length + n := by
  induction n with
  | zero => rfl
  | succ n ih => simp [sched, ih]; omega

/-- A round. -/
def roundW (v : List W) (k w : W) : List W :=
  let one := v.getD 7 0 + S1 (v.getD 4 0) + ch (v.getD 4 0) (v.getD 5 0) (v.getD 6 0) + k + w
  let two := S0 (v.getD 0 0) + maj (v.getD 0 0) (v.getD 1 0) (v.getD 2 0)
  [one + two, v.getD 0 0, v.getD 1 0, v.getD 2 0, v.getD 3 0 + one, v.getD 4 0, v.getD 5 0, v.getD 6 0]
def rounds (ks ws : List W) (h : List W) : Nat → List W
  | 0 => h
  | t + 1 => roundW (rounds ks ws h t) (ks.getD t 0) (ws.getD t 0)
def compress (ks : List W) (h m : List W) : List W := (List.range 8).map fun i => h.getD i 0 + (rounds ks (sched m 48) h 64).getD i 0

/-- Sixteen words of 64 bytes. -/
def word (b : List UInt8) (t : Nat) : W :=
  (((BitVec.ofNat 32 (b.getD (4 * t) 0).toNat <<< 8 ||| BitVec.ofNat 32 (b.getD (4 * t + 1) 0).toNat) <<< 8 ||| BitVec.ofNat 32 (b.getD (4 * t + 2) 0).toNat) <<< 8) ||| BitVec.ofNat 32 (b.getD (4 * t + 3) 0).toNat
def words (b : List UInt8) : List W := (List.range 16).map (word b)

/-- All whole blocks. -/
def runs (ks : List W) (h : List W) (b : List UInt8) : List W := if _h : 64 ≤ b.length then runs ks (compress ks h (words (b.take 64))) (b.drop 64) else h
termination_by b.length
decreasing_by simp; omega

theorem runs_short (ks h : List W) (b : List UInt8) (hb : b.length < 64) : runs ks h b = h := by
  rw [runs, dif_neg (by omega)]
theorem runs_long (ks h : List W) (b : List UInt8) (hb : 64 ≤ b.length) : runs ks h b = runs ks (compress ks h (words (b.take 64))) (b.drop 64) := by
  rw [runs, dif_pos hb]

theorem runs_append (ks : List W) : ∀ (n : Nat) (h : List W) (a b : List UInt8), a.length = 64 * n → runs ks h (a ++ b) = runs ks (runs ks h a) b
  | 0, h, a, b, e => by
    obtain rfl : a = [] := List.eq_nil_of_length_eq_zero (by omega)
    rw [runs_short ks h [] (by simp)]; rfl
  | n + 1, h, a, b, e => by
    rw [runs_long ks h (a ++ b) (by simp; omega), runs_long ks h a (by omega), List.take_append_of_le_length (by omega), List.drop_append_of_le_length (by omega)]
    exact runs_append ks n _ _ _ (by simp; omega)

/-- The padding of a text of n bytes. -/
def be8 (n : Nat) : List UInt8 := (List.range 8).map fun j => UInt8.ofNat (n / 2 ^ (8 * (7 - j)))
def padding (n : Nat) : List UInt8 := 128 :: List.replicate ((119 - n % 64) % 64) 0 ++ be8 (n * 8)
def ofWord (x : W) : List UInt8 := [UInt8.ofNat (x >>> 24).toNat, UInt8.ofNat (x >>> 16).toNat, UInt8.ofNat (x >>> 8).toNat, UInt8.ofNat x.toNat]
def shaL (ks h : List W) (s : List UInt8) : List UInt8 := (runs ks h (s ++ padding s.length)).flatMap ofWord
def sha (ks h : List W) (s : ByteArray) : ByteArray := ⟨(shaL ks h s.data.toList).toArray⟩

theorem compress_length (ks h m : List W) : (compress ks h m).length = 8 := by simp [compress]
theorem runs_length (ks : List W) : ∀ (n : Nat) (h : List W) (b : List UInt8), b.length ≤ n → h.length = 8 → (runs ks h b).length = 8
  | n, h, b, hn, hh => by
    by_cases e : 64 ≤ b.length
    · rw [runs_long ks h b e]
      cases n with
      | zero => omega
      | succ n => exact runs_length ks n _ _ (by simp; omega) (compress_length _ _ _)
    · rw [runs_short ks h b (by omega)]; exact hh
end Go.Proofs.YtpecclcihefbaaaDoor.Sha
