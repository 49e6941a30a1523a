/- What LawWireReads, LawWireWrites, LawWireSpoilt lean on, part l of 25: the texts ShaS, RefE, WiN, ShaD, TmG, RefF. -/
import Derived.Test.YtbefkoljcacpcaaGreatDoorTVf
import Derived.Test.YtbefkoljcacpcaaGreatDoorTVg
import Derived.Test.YtbefkoljcacpcaaGreatDoorTVi
import Derived.Test.YtbefkoljcacpcaaGreatDoorTVk
import Derived.Deep.AppendLies
import Derived.OwnWalk
import Derived.BigRegion
import Derived.Deep.RegionLaw
set_option linter.unusedVariables false
set_option linter.unusedSimpArgs false
namespace Go.Proofs.YtbefkoljcacpcaaGreatDoor.Sha
open Go.RowKit Go.Proofs.YtbefkoljcacpcaaGreatDoor.B
def Mem (w0 w : World) (hs : List W) : Prop := hs.length = 8 ∧ St w w0.heap.size hs ∧ Tch (fun _ => False) w0 w
def Rest1 (s b : ByteArray) (hs : List W) : Prop := b.size ≤ s.size ∧ b.size % 64 = s.size % 64 ∧ ∀ tail, runs K hs (b.data.toList ++ tail) = runs K H0 (s.data.toList ++ tail)
def Rest2 (T : List W) (b : ByteArray) (hs : List W) : Prop := b.size % 64 = 0 ∧ runs K hs b.data.toList = T
theorem block_list (hb : Nat) (hs : List W) (hl : hs.length = 8) (b : ByteArray) (hbl : b.size = 64) (w : World) (hSt : St w hb hs) :
    Calls Tryz.prog 43 #[.pointer (some ⟨hb, 0, none⟩), .string b] w fun e w' => e = .returned (.tuple #[]) ∧ St w' hb (compress K hs (words b.data.toList)) ∧ Tch (· = hb) w w' := by
  obtain ⟨y0, y1, y2, y3, y4, y5, y6, y7, rfl⟩ := eight hl
  exact block_any hb _ _ _ _ _ _ _ _ b hbl w hSt
theorem mem_start (w : World) : Mem w (w.alloc (.cells (ucells H0) 99)) H0 := ⟨rfl, heap_alloc_at _ _, (Tch.refl _ _).alloc _⟩
theorem mem_next {w0 w w' : World} {hs hs' : List W} (h : Mem w0 w hs) (hl : hs'.length = 8) (h1 : St w' w0.heap.size hs') (h2 : Tch (· = w0.heap.size) w w') : Mem w0 w' hs' := by
  obtain ⟨_, _, c⟩ := h
  exact ⟨hl, h1, h2.os.trans c.os, h2.tape.trans c.tape, h2.output.trans c.output, Nat.le_trans c.size h2.size, fun k hk _ => (h2.block k (Nat.lt_of_lt_of_le hk c.size) (show ¬ k = _ from by omega)).trans (c.block k hk id)⟩
theorem ext_lo (b : ByteArray) (h : 64 ≤ b.size) : (b.extract 0 64).size = 64 := by rw [ByteArray.size_extract]; omega
theorem ext_hi (b : ByteArray) : (b.extract 64 b.size).size = b.size - 64 := by rw [ByteArray.size_extract]; omega
theorem ext_lo_list (b : ByteArray) : (b.extract 0 64).data.toList = b.data.toList.take 64 := by
  rw [ByteArray.data_extract, Array.toList_extract]; simp [List.extract]
theorem ext_hi_list (b : ByteArray) : (b.extract 64 b.size).data.toList = b.data.toList.drop 64 := by
  rw [ByteArray.data_extract, Array.toList_extract]
  simp only [List.extract]
  exact List.take_of_length_le (by rw [List.length_drop, Array.length_toList]; exact Nat.le_refl _)
theorem len_list (b : ByteArray) : b.data.toList.length = b.size := by rw [Array.length_toList]; rfl
theorem rest1_next {s b : ByteArray} {hs : List W} (h : Rest1 s b hs) (hb : 64 ≤ b.size) : Rest1 s (b.extract 64 b.size) (compress K hs (words (b.extract 0 64).data.toList)) := by
  obtain ⟨h1, h2, h3⟩ := h
  refine ⟨by rw [ext_hi]; omega, by rw [ext_hi]; omega, fun tail => ?_⟩
  rw [← h3 tail, runs_long K hs (b.data.toList ++ tail) (by rw [List.length_append, len_list]; omega), ext_lo_list, ext_hi_list,
    List.take_append_of_le_length (by rw [len_list]; exact hb), List.drop_append_of_le_length (by rw [len_list]; exact hb)]
theorem rest2_next {T : List W} {b : ByteArray} {hs : List W} (h : Rest2 T b hs) (hb : 64 ≤ b.size) : Rest2 T (b.extract 64 b.size) (compress K hs (words (b.extract 0 64).data.toList)) := by
  obtain ⟨h1, h2⟩ := h
  refine ⟨by rw [ext_hi]; omega, ?_⟩
  rw [← h2, runs_long K hs b.data.toList (by rw [len_list]; omega), ext_lo_list, ext_hi_list]
theorem repeat_zero : ∀ c, Lib.repeatL [0] c = List.replicate c 0
  | 0 => rfl
  | c + 1 => by rw [Lib.repeatL, repeat_zero c]; rfl
theorem mem_below {w0 w w' : World} {hs : List W} (h : Mem w0 w hs) (h2 : Below w.heap.size w w') : Mem w0 w' hs :=
  ⟨h.1, (h2.block _ (heap_lt h.2.1)).trans h.2.1, h.2.2.trans (Tch.of_new h2)⟩
theorem conv1 (W : World) (n : Int) (x : UInt8) (h : n = (x.toNat : Int)) :
    (convert 30 9 (.slice (some ⟨W.heap.size, 0, none⟩) 1 1)).run Tryz.prog (W.alloc (.cells #[.int .u8 n] 5)) = .ok (.string ⟨#[x]⟩) (W.alloc (.cells #[.int .u8 n] 5)) := by
  subst h
  refine run_convert_bytes_back _ 30 9 5 _ 1 [x] Tryz.underlying30 Tryz.underlying5 Tryz.underlying9 fun j hj => ?_
  obtain rfl : j = 0 := by simp at hj; exact hj
  rw [add0, cell_of (heap_alloc_at _ _)]; rfl
theorem mem_alloc {w0 w : World} {hs : List W} (h : Mem w0 w hs) (o : Obj) : Mem w0 (w.alloc o) hs :=
  ⟨h.1, (heap_alloc_lt _ _ _ (heap_lt h.2.1)).trans h.2.1, h.2.2.alloc o⟩
theorem rest2_start {s b q : ByteArray} {hs : List W} (h : Rest1 s b hs) (hb : b.size < 64) (hq : q.data.toList = b.data.toList ++ (128 :: List.replicate ((119 - b.size) % 64) 0 ++ (be8 (s.size * 8)).take 8)) :
    Rest2 (runs K H0 (s.data.toList ++ padding s.data.toList.length)) q hs := by
  obtain ⟨h1, h2, h3⟩ := h
  have e8 : (be8 (s.size * 8)).take 8 = be8 (s.size * 8) := List.take_of_length_le (by simp [be8])
  have hp : padding s.data.toList.length = 128 :: List.replicate ((119 - b.size) % 64) 0 ++ be8 (s.size * 8) := by
    rw [padding, len_list, ← h2, Nat.mod_eq_of_lt hb]
  rw [e8, ← hp] at hq
  refine ⟨?_, by rw [hq, h3]⟩
  rw [← len_list, hq, hp]
  simp [be8, len_list]
  omega
def Padded (b : ByteArray) (e : List UInt8) (j : Nat) (q : ByteArray) : Prop := q.data.toList = b.data.toList ++ (128 :: List.replicate ((119 - b.size) % 64) 0 ++ e.take j)
theorem pad_start (b z : ByteArray) (c : Nat) (hz : z.data.toList = List.replicate ((119 - b.size) % 64) 0) (e : List UInt8) : Padded b e 0 (b ++ { data := #[128] } ++ z) := by
  unfold Padded
  simp [ByteArray.data_append, hz]
theorem padded_next {b q : ByteArray} {n j : Nat} (h : Padded b (be8 n) j q) (hj : j < 8) : Padded b (be8 n) (j + 1) (q ++ ⟨#[UInt8.ofNat (n / 2 ^ (8 * (7 - j)))]⟩) := by
  unfold Padded at *
  have hl : (be8 n).length = 8 := by simp [be8]
  have : (be8 n).take (j + 1) = (be8 n).take j ++ [UInt8.ofNat (n / 2 ^ (8 * (7 - j)))] := by
    rw [List.take_add_one]
    congr 1
    simp [be8, List.getElem?_range hj]
  rw [ByteArray.data_append, Array.toList_append, h, this]
  simp
theorem padded_size {b q : ByteArray} {e : List UInt8} {j : Nat} (h : Padded b e j q) (hb : b.size < 64) (he : e.length = 8) : (q.size : Int) < 200 := by
  have := congrArg List.length h
  rw [len_list] at this
  simp [len_list, he] at this
  omega
theorem rest2_end {T : List W} {b : ByteArray} {hs : List W} (h : Rest2 T b hs) (hb : b.size = 0) : T = hs := by
  rw [← h.2, runs_short K hs _ (by rw [len_list]; omega)]
theorem idx8 (W : World) (y0 y1 y2 y3 y4 y5 y6 y7 : BitVec 32) : ∀ j, j < 8 → (Instr.index 99 (.agg #[.int .u32 (nv y0), .int .u32 (nv y1), .int .u32 (nv y2), .int .u32 (nv y3), .int .u32 (nv y4), .int .u32 (nv y5), .int .u32 (nv y6), .int .u32 (nv y7)]) (.int .i64 (j : Nat))).run Tryz.prog W = .ok (.int .u32 (nv (([y0, y1, y2, y3, y4, y5, y6, y7] : List (BitVec 32)).getD j 0))) W
  | 0, _ => by kernel_rfl
  | 1, _ => by kernel_rfl
  | 2, _ => by kernel_rfl
  | 3, _ => by kernel_rfl
  | 4, _ => by kernel_rfl
  | 5, _ => by kernel_rfl
  | 6, _ => by kernel_rfl
  | 7, _ => by kernel_rfl
  | n + 8, h => absurd h (by omega)
theorem flat_next {ys : List W} {j : Nat} (hl : ys.length = 8) (hj : j < 8) : (ys.take (j + 1)).flatMap ofWord = (ys.take j).flatMap ofWord ++ ofWord (ys.getD j 0) := by
  rw [List.take_add_one, List.flatMap_append, List.getD_eq_getElem?_getD, List.getElem?_eq_getElem (by omega)]
  simp
theorem flat_len : ∀ {ys : List W}, ys.length = 8 → (ys.flatMap ofWord).length = 8 * 4 := by
  intro ys h
  obtain ⟨y0, y1, y2, y3, y4, y5, y6, y7, rfl⟩ := eight h
  rfl
theorem byte_of (x : W) : ((UInt8.ofNat x.toNat).toNat : Int) = nv x % 256 := by
  rw [UInt8.toNat_ofNat']; unfold nv; omega
theorem word_cells (x : W) : ([.int .u8 (nv x / 16777216 % 256), .int .u8 (nv x / 65536 % 256), .int .u8 (nv x / 256 % 256), .int .u8 (nv x % 256)] : List Value) = bc (ofWord x) := by
  have h24 : nv x / (16777216 : Int) = nv (x >>> 24) := nv_shr x 24
  have h16 : nv x / (65536 : Int) = nv (x >>> 16) := nv_shr x 16
  have h8 : nv x / (256 : Int) = nv (x >>> 8) := nv_shr x 8
  rw [h24, h16, h8, ← byte_of, ← byte_of, ← byte_of, ← byte_of]; rfl
theorem sum_next {w wr w1 : World} {g cap j B : Nat} {v : Value} {yj : W} {ys : List W} (ho : wr.ownsRow B 5 1 v (j * 4) (bc ((ys.take j).flatMap ofWord)))
    (hn : (ys.take (j + 1)).flatMap ofWord = (ys.take j).flatMap ofWord ++ ofWord yj) (ht : Tch (fun _ => False) w wr) (hB : B ≤ wr.heap.size) (hw : w.heap.size ≤ B)
    (h1 : w1.ownsRow B 5 1 (.slice (some ⟨g, 0, none⟩) (j * 4 + 4) cap) (j * 4 + 4) (bc ((ys.take j).flatMap ofWord) ++ [.int .u8 (nv yj / 16777216 % 256), .int .u8 (nv yj / 65536 % 256), .int .u8 (nv yj / 256 % 256), .int .u8 (nv yj % 256)]))
    (h2 : (wr.alloc (.cells #[.int .u8 (nv yj / 16777216 % 256), .int .u8 (nv yj / 65536 % 256), .int .u8 (nv yj / 256 % 256), .int .u8 (nv yj % 256)] 5)).grownBy w1 v.ownBlock) :
    w1.ownsRow B 5 1 (.slice (some ⟨g, 0, none⟩) (j * 4 + 4) cap) ((j + 1) * 4) (bc ((ys.take (j + 1)).flatMap ofWord)) ∧ Tch (fun _ => False) w w1 ∧ B ≤ w1.heap.size := by
  rw [word_cells] at h1
  refine ⟨by rw [hn, bc_append, show (j + 1) * 4 = j * 4 + 4 from by omega]; exact h1, own_tch (ht.alloc _) (ho.alloc _) hw h2, ?_⟩
  have := h2.size
  simp at this
  omega
set_option maxRecDepth 100000 in
set_option maxHeartbeats 4000000 in
theorem Sum_any (s : ByteArray) (hsz : s.size ≤ 140737488351232) (w : World) :
    Calls Tryz.prog 22 #[.string s] w fun e w' => e = .returned (.string (sha K H0 s)) ∧ Tch (fun _ => False) w w' := by
  have hsz := Lib.hid hsz
  go_enter Tryz.func22, Tryz.ntmps22
  go_wp2_with fail
  go_loopg [4] s.size (fun g r wr => ∃ (b : ByteArray) (hs : List W), g = b.size ∧ r = .string b ∧ Mem w wr hs ∧ Rest1 s b hs)
  case atStart => exact ⟨s, H0, rfl, rfl, mem_start w, Nat.le_refl _, rfl, fun _ => rfl⟩
  case round =>
    obtain ⟨b, hs, rfl, rfl, hm, hr⟩ := hrel
    by_cases hb : 64 ≤ b.size
    · have hgo : ((64 : Int) ≤ (b.size : Int)) := by omega
      have hN := Lib.hid (fun w' h1 h2 => mem_next (w' := w') hm (compress_length K hs (words (b.extract 0 64).data.toList)) h1 h2)
      have hC := Lib.hid (block_list w.heap.size hs hm.1 (b.extract 0 64) (ext_lo b hb) wr hm.2.1)
      have hR := Lib.hid (rest1_next hr hb)
      have hsz := Lib.hid (ext_hi b)
      clear hm hr
      go_wp2_with (go_at_call 43; refine (hC.out).mono ?_; rintro e w' ⟨rfl, h1, h2⟩; have hm := Lib.hid (hN.out _ h1 h2); clear h1 h2)
      go_roundg (b.size - 64)
      case measure => omega
      case rel => exact ⟨b.extract 64 b.size, _, hsz.out.symm, rfl, hm.out, hR.out⟩
    · have hgo : ¬ ((64 : Int) ≤ (b.size : Int)) := by omega
      have hbs : b.size < 64 := by omega
      obtain ⟨z, hz⟩ : ∃ z : ByteArray, z = ⟨(Lib.repeatL [0] ((119 - b.size) % 64)).toArray⟩ := ⟨_, rfl⟩
      have hC := Lib.hid (Tryz.strings_Repeat ⟨#[0]⟩ ((119 - b.size) % 64) wr (by omega) (by show 1 * _ ≤ _; omega))
      rw [show (((119 - b.size) % 64 : Nat) : Int) = (119 - (b.size : Int)) % 64 from by omega, ← hz] at hC
      have hzl := Lib.hid (show z.data.toList = List.replicate ((119 - b.size) % 64) 0 from by rw [hz]; exact repeat_zero _)
      have hzs := Lib.hid (show z.size = (119 - b.size) % 64 from by rw [← len_list, hzl.out, List.length_replicate])
      have hz64 : (z.size : Int) < 64 := by have := hzs.out; omega
      have hmH := Lib.hid hm
      have hrH := Lib.hid hr
      have hbs' : (b.size : Int) < 64 := by omega
      clear hm hr hz
      go_wp2_with (go_at_call 44; refine (hC.out).mono ?_; rintro e w' ⟨rfl, hw'⟩; have hm := Lib.hid (mem_below hmH.out hw'); clear hw')
      have hq0 := Lib.hid (pad_start b z 0 hzl.out (be8 (s.size * 8)))
      clear hC hmH hzl
      generalize b ++ ({ data := #[128] } : ByteArray) ++ z = q0 at *
      go_loopg [5, 7] 8 (fun g l i W => ∃ (j : Nat) (q : ByteArray), g = 8 - j ∧ j ≤ 8 ∧ l = .string q ∧ i = .int .i64 (7 - (j : Int)) ∧ Padded b (be8 (s.size * 8)) j q ∧ Mem w W hs)
      case atStart => exact ⟨0, q0, rfl, by omega, rfl, rfl, hq0.out, hm.out⟩
      case round =>
        clear hq0 hm
        obtain ⟨j, q, hg, hj, rfl, rfl, hq, hm⟩ := hrel
        subst hg
        by_cases hjl : j < 8
        · have hqs : (q.size : Int) < 200 := padded_size hq hbs (by simp [be8])
          have hqH := Lib.hid hq
          have hmH := Lib.hid hm
          clear hq hm
          obtain rfl | rfl | rfl | rfl | rfl | rfl | rfl | rfl : j = 0 ∨ j = 1 ∨ j = 2 ∨ j = 3 ∨ j = 4 ∨ j = 5 ∨ j = 6 ∨ j = 7 := by omega
          · obtain ⟨x, hx⟩ : ∃ x, x = UInt8.ofNat (s.size * 8 / 2 ^ (8 * (7 - 0))) := ⟨_, rfl⟩
            have hcv := fun W : World => conv1 W ((s.size : Int) * 8 / 72057594037927936) x (by have := hsz.out; rw [hx, UInt8.toNat_ofNat']; omega)
            have hnx := Lib.hid (padded_next hqH.out (by decide : 0 < 8))
            rw [← hx] at hnx
            clear hx
            go_wp2_with fail
            go_roundg (8 - (0 + 1))
            case measure => omega
            case rel => exact ⟨0 + 1, _, rfl, by omega, rfl, by go_num, hnx.out, (mem_alloc hmH.out _)⟩
          · obtain ⟨x, hx⟩ : ∃ x, x = UInt8.ofNat (s.size * 8 / 2 ^ (8 * (7 - 1))) := ⟨_, rfl⟩
            have hcv := fun W : World => conv1 W ((s.size : Int) * 8 / 281474976710656) x (by have := hsz.out; rw [hx, UInt8.toNat_ofNat']; omega)
            have hnx := Lib.hid (padded_next hqH.out (by decide : 1 < 8))
            rw [← hx] at hnx
            clear hx
            go_wp2_with fail
            go_roundg (8 - (1 + 1))
            case measure => omega
            case rel => exact ⟨1 + 1, _, rfl, by omega, rfl, by go_num, hnx.out, (mem_alloc hmH.out _)⟩
          · obtain ⟨x, hx⟩ : ∃ x, x = UInt8.ofNat (s.size * 8 / 2 ^ (8 * (7 - 2))) := ⟨_, rfl⟩
            have hcv := fun W : World => conv1 W (((s.size : Int) * 8 / 1099511627776) % 256) x (by have := hsz.out; rw [hx, UInt8.toNat_ofNat']; omega)
            have hnx := Lib.hid (padded_next hqH.out (by decide : 2 < 8))
            rw [← hx] at hnx
            clear hx
            go_wp2_with fail
            go_roundg (8 - (2 + 1))
            case measure => omega
            case rel => exact ⟨2 + 1, _, rfl, by omega, rfl, by go_num, hnx.out, (mem_alloc hmH.out _)⟩
          · obtain ⟨x, hx⟩ : ∃ x, x = UInt8.ofNat (s.size * 8 / 2 ^ (8 * (7 - 3))) := ⟨_, rfl⟩
            have hcv := fun W : World => conv1 W (((s.size : Int) * 8 / 4294967296) % 256) x (by have := hsz.out; rw [hx, UInt8.toNat_ofNat']; omega)
            have hnx := Lib.hid (padded_next hqH.out (by decide : 3 < 8))
            rw [← hx] at hnx
            clear hx
            go_wp2_with fail
            go_roundg (8 - (3 + 1))
            case measure => omega
            case rel => exact ⟨3 + 1, _, rfl, by omega, rfl, by go_num, hnx.out, (mem_alloc hmH.out _)⟩
          · obtain ⟨x, hx⟩ : ∃ x, x = UInt8.ofNat (s.size * 8 / 2 ^ (8 * (7 - 4))) := ⟨_, rfl⟩
            have hcv := fun W : World => conv1 W (((s.size : Int) * 8 / 16777216) % 256) x (by have := hsz.out; rw [hx, UInt8.toNat_ofNat']; omega)
            have hnx := Lib.hid (padded_next hqH.out (by decide : 4 < 8))
            rw [← hx] at hnx
            clear hx
            go_wp2_with fail
            go_roundg (8 - (4 + 1))
            case measure => omega
            case rel => exact ⟨4 + 1, _, rfl, by omega, rfl, by go_num, hnx.out, (mem_alloc hmH.out _)⟩
          · obtain ⟨x, hx⟩ : ∃ x, x = UInt8.ofNat (s.size * 8 / 2 ^ (8 * (7 - 5))) := ⟨_, rfl⟩
            have hcv := fun W : World => conv1 W (((s.size : Int) * 8 / 65536) % 256) x (by have := hsz.out; rw [hx, UInt8.toNat_ofNat']; omega)
            have hnx := Lib.hid (padded_next hqH.out (by decide : 5 < 8))
            rw [← hx] at hnx
            clear hx
            go_wp2_with fail
            go_roundg (8 - (5 + 1))
            case measure => omega
            case rel => exact ⟨5 + 1, _, rfl, by omega, rfl, by go_num, hnx.out, (mem_alloc hmH.out _)⟩
          · obtain ⟨x, hx⟩ : ∃ x, x = UInt8.ofNat (s.size * 8 / 2 ^ (8 * (7 - 6))) := ⟨_, rfl⟩
            have hcv := fun W : World => conv1 W (((s.size : Int) * 8 / 256) % 256) x (by have := hsz.out; rw [hx, UInt8.toNat_ofNat']; omega)
            have hnx := Lib.hid (padded_next hqH.out (by decide : 6 < 8))
            rw [← hx] at hnx
            clear hx
            go_wp2_with fail
            go_roundg (8 - (6 + 1))
            case measure => omega
            case rel => exact ⟨6 + 1, _, rfl, by omega, rfl, by go_num, hnx.out, (mem_alloc hmH.out _)⟩
          · obtain ⟨x, hx⟩ : ∃ x, x = UInt8.ofNat (s.size * 8 / 2 ^ (8 * (7 - 7))) := ⟨_, rfl⟩
            have hcv := fun W : World => conv1 W ((s.size : Int) * 8 % 256) x (by have := hsz.out; rw [hx, UInt8.toNat_ofNat']; omega)
            have hnx := Lib.hid (padded_next hqH.out (by decide : 7 < 8))
            rw [← hx] at hnx
            clear hx
            go_wp2_with fail
            go_roundg (8 - (7 + 1))
            case measure => omega
            case rel => exact ⟨7 + 1, _, rfl, by omega, rfl, by go_num, hnx.out, (mem_alloc hmH.out _)⟩
        · have hj8 : j = 8 := by omega
          subst hj8
          have hr2 := Lib.hid (rest2_start hrH.out hbs hq)
          have hmH := Lib.hid hm
          clear hq hm hrH
          go_wp2_with fail
          clear hbs' hz64 hzs
          go_loopg [5] q.size (fun g l W => ∃ (b : ByteArray) (hs : List (BitVec 32)), g = b.size ∧ l = .string b ∧ Mem w W hs ∧ Rest2 (runs K H0 (s.data.toList ++ padding s.data.toList.length)) b hs)
          case atStart => exact ⟨q, hs, rfl, rfl, hmH.out, hr2.out⟩
          case round =>
            clear hr2 hmH
            obtain ⟨b, hs, rfl, rfl, hm, hr⟩ := hrel
            by_cases hb : 0 < b.size
            · have hb64 : 64 ≤ b.size := by have := hr.1; omega
              have hgo : ((64 : Int) ≤ (b.size : Int)) := by omega
              have hgo0 : ((0 : Int) < (b.size : Int)) := by omega
              have hN := Lib.hid (fun w' h1 h2 => mem_next (w' := w') hm (compress_length K hs (words (b.extract 0 64).data.toList)) h1 h2)
              have hC := Lib.hid (block_list w.heap.size hs hm.1 (b.extract 0 64) (ext_lo b hb64) wr hm.2.1)
              have hR := Lib.hid (rest2_next hr hb64)
              have hsz := Lib.hid (ext_hi b)
              clear hm hr
              go_wp2_with (go_at_call 43; refine (hC.out).mono ?_; rintro e w' ⟨rfl, h1, h2⟩; have hm := Lib.hid (hN.out _ h1 h2); clear h1 h2)
              go_roundg (b.size - 64)
              case measure => omega
              case rel => exact ⟨b.extract 64 b.size, _, hsz.out.symm, rfl, hm.out, hR.out⟩
            · have hgo0 : ¬ ((0 : Int) < (b.size : Int)) := by omega
              have hr : runs K H0 (s.data.toList ++ padding s.data.toList.length) = hs := rest2_end hr (by omega)
              have hrH := Lib.hid hr
              obtain ⟨y0, y1, y2, y3, y4, y5, y6, y7, rfl⟩ := eight hm.1
              obtain ⟨hc0, hc1, hc2, hc3, hc4, hc5, hc6, hc7⟩ := st_cells hm.2.1
              have hmH := Lib.hid hm.2.2
              clear hm hr
              have hix := fun (W : World) (j : Nat) (hj : j < 8) => idx8 W y0 y1 y2 y3 y4 y5 y6 y7 j hj
              have hout0 := Lib.hid (own_nil wr wr.heap.size)
              have hB := Lib.hid (hmH.out.size)
              obtain ⟨i8, hi8, hz8, hs8, hb8⟩ := info8
              go_wp2_with fail
              clear hc0 hc1 hc2 hc3 hc4 hc5 hc6 hc7
              obtain ⟨B, hBe⟩ : ∃ B, B = wr.heap.size := ⟨_, rfl⟩
              rw [← hBe] at hout0 hB
              have hBe := Lib.hid (Nat.le_of_eq hBe)
              obtain ⟨ys, hys⟩ : ∃ ys : List (BitVec 32), ys = [y0, y1, y2, y3, y4, y5, y6, y7] := ⟨_, rfl⟩
              rw [← hys] at hrH hix
              have hyl : ys.length = 8 := by rw [hys]; rfl
              have hyl := Lib.hid hyl
              clear hys
              go_loopg [8, 55] 8 (fun g v i W => ∃ j : Nat, g = 8 - j ∧ j ≤ 8 ∧ i = .int .i64 j ∧ W.ownsRow B 5 1 v (j * 4) (bc ((ys.take j).flatMap ofWord)) ∧ Tch (fun _ => False) w W ∧ B ≤ W.heap.size)
              case atStart => exact ⟨0, rfl, by omega, rfl, hout0.out, hmH.out, hBe.out⟩
              case round =>
                clear hout0 hmH hBe
                obtain ⟨j, hg, hj, rfl, ho, ht, hBs⟩ := hrel
                subst hg
                by_cases hjl : j < 8
                · have hj8 : (j : Int) < 8 := by omega
                  have hixj := fun W => hix W j hjl
                  have hnx := flat_next hyl.out hjl
                  have hj4 : j * 4 ≤ 32 := by omega
                  have ho := Lib.hid ho
                  have hnx := Lib.hid hnx
                  have ht := Lib.hid ht
                  have hBs := Lib.hid hBs
                  clear hix
                  generalize ys.getD j 0 = yj at *
                  have hfin := fun g cap w1 => sum_next (g := g) (cap := cap) (w1 := w1) (yj := yj) (B := B) (w := w) (wr := wr) ho.out hnx.out ht.out hBs.out hB.out
                  have hfin := Lib.hid hfin
                  clear hnx
                  go_wp2_with (at_builtin; refine wpList_append_lies _ (by rfl) _ _ _ (by rfl) B 5 i8 _ 1 1 Tryz.underlying30 hi8 hz8 hs8 hb8 rfl (by omega) u8 (j * 4) _ (by rfl) (ho.out.alloc _) ⟨wr.heap.size, 0, none⟩ 4 4 [.int .u8 (nv yj / 16777216 % 256), .int .u8 (nv yj / 65536 % 256), .int .u8 (nv yj / 256 % 256), .int .u8 (nv yj % 256)] (by rfl) (by rfl) (World.news_of_block (heap_alloc_at _ _)) (by simp [Value.oneCell']) (by omega) (by unfold maxLen; omega) (by omega) (by simp; have := hBs.out; omega) (wr.heap.size + 1) (by simp) ?_; intro g cap w1 hown1 hgrow hat hlt)
                  go_roundg (8 - (j + 1))
                  case measure => omega
                  case rel => exact ⟨j + 1, rfl, by omega, by go_num, hfin.out _ _ _ hown1 hgrow⟩
                · have hj8 : j = 8 := by omega
                  subst hj8
                  rw [List.take_of_length_le (by rw [hyl.out]; omega), show 8 * 4 = (ys.flatMap ofWord).length from (flat_len hyl.out).symm] at ho
                  have hcv := own_conv _ _ _ _ ho
                  have hres : sha K H0 s = ⟨(ys.flatMap ofWord).toArray⟩ := by rw [← hrH.out]; rfl
                  have hres := Lib.hid hres
                  have ht := Lib.hid ht
                  generalize (⟨(ys.flatMap ofWord).toArray⟩ : ByteArray) = out at hres hcv
                  clear ho hix
                  go_wp2_with fail
                  go_ret
                  exact ⟨by rw [hres.out]; rfl, ht.out⟩
end Go.Proofs.YtbefkoljcacpcaaGreatDoor.Sha
set_option linter.unusedVariables false
namespace Go.Proofs.YtbefkoljcacpcaaGreatDoor.Ref
def pstep (l : List Nat) (k : Nat) : List Nat := if l.any (fun d => k % d == 0) then l else l ++ [k]
def pst : Nat → List Nat
  | 0 => []
  | t + 1 => pstep (pst t) (t + 2)
theorem pst_small : ∀ t, ∀ d ∈ pst t, 2 ≤ d ∧ d < t + 2
  | 0, d, h => absurd h (by simp [pst])
  | t + 1, d, h => by
    rw [pst, pstep] at h
    split at h
    · have := pst_small t d h; omega
    · rcases List.mem_append.1 h with h | h
      · have := pst_small t d h; omega
      · rw [List.mem_singleton] at h; omega
theorem pst_mono : ∀ t u, t ≤ u → (pst t).length ≤ (pst u).length
  | t, 0, h => by obtain rfl : t = 0 := by omega
                  exact Nat.le_refl _
  | t, u + 1, h => by
    by_cases e : t = u + 1
    · subst e; exact Nat.le_refl _
    · have := pst_mono t u (by omega)
      rw [pst, pstep]
      split
      · exact this
      · simp; omega
theorem pst8 : (pst 17).length < 8 ∧ (pst 18).length = 8 := by decide +kernel
theorem pst64 : (pst 309).length < 64 ∧ (pst 310).length = 64 := by decide +kernel
def tab (n t q : Nat) : List (BitVec 32) := (pst t).map fun p => BitVec.ofNat 32 (rootN p q)
theorem tabH : tab 8 18 2 = Sha.H0 := by decide +kernel
theorem tabK : tab 64 310 3 = Sha.K := by decide +kernel
end Go.Proofs.YtbefkoljcacpcaaGreatDoor.Ref
set_option linter.unusedVariables false
set_option linter.unusedSimpArgs false
namespace Go.Proofs.YtbefkoljcacpcaaGreatDoor.Wi
open Go Go.RowKit Go.Proofs.YtbefkoljcacpcaaGreatDoor.B Go.Proofs.YtbefkoljcacpcaaGreatDoor.Bld Go.Proofs.YtbefkoljcacpcaaGreatDoor.Tm
def numRow (g : Nat) : Array Value := #[.pointer (some ⟨g, 0, none⟩), .int .i64 7, .pointer (some ⟨g, 1, none⟩), .int .i64 7, .pointer (some ⟨g, 2, none⟩), .int .i64 4, .pointer (some ⟨g, 3, none⟩), .int .i64 2147483647, .pointer (some ⟨g, 4, none⟩), .int .i64 2147483647, .pointer (some ⟨g, 5, none⟩), .int .i64 2147483647]
set_option maxRecDepth 100000 in
set_option maxHeartbeats 4000000 in
theorem numbers_c (g : Nat) (w : World) : Calls Tryz.prog 18 #[.pointer (some ⟨g, 0, none⟩)] w
    fun ev w' => ∃ A t, ev = .returned (.slice (some ⟨A, 0, none⟩) 6 6) ∧ w.heap.size ≤ A ∧ w'.heap[A]? = some (.cells (numRow g) t (0, 0)) ∧ Below w.heap.size w w' := by
  go_enter Tryz.func18, Tryz.ntmps18
  go_wp2_with fail
  go_region
  all_goals (go_wp2_with fail; go_ret; exact ⟨_, _, rfl, Nat.le_refl _, heap_alloc_at _ _, ((Below.refl _ _).alloc (Nat.le_refl _) _).drew⟩)
end Go.Proofs.YtbefkoljcacpcaaGreatDoor.Wi
set_option linter.unusedVariables false
set_option linter.unusedSimpArgs false
namespace Go.Proofs.YtbefkoljcacpcaaGreatDoor.Sha
open Go.RowKit Go.Proofs.YtbefkoljcacpcaaGreatDoor.B
theorem undrew {w w' : World} {row : Option Nat} (h : w.drew.grownBy w' row) : w.grownBy w' row := ⟨h.os, h.tape, h.output, h.size, h.block⟩
end Go.Proofs.YtbefkoljcacpcaaGreatDoor.Sha
set_option linter.unusedVariables false
set_option linter.unusedSimpArgs false
namespace Go.Proofs.YtbefkoljcacpcaaGreatDoor.Tm
open Go Go.RowKit Go.Proofs.YtbefkoljcacpcaaGreatDoor.B Go.Proofs.YtbefkoljcacpcaaGreatDoor.Bld Go.Proofs.YtbefkoljcacpcaaGreatDoor.Sha
def RdAt (w : World) (g : Nat) (s : ByteArray) : Prop := w.heap[g]? = some (.cells #[.string s] 145 (0, 0))
theorem rdAt_set {w : World} {g : Nat} {s : ByteArray} (h : RdAt w g s) (r : ByteArray) : RdAt (w.setCell ⟨g, 0, none⟩ (.string r)) g r := heap_set w g 0 (.string r) _ _ _ h
theorem toList_size (s : ByteArray) : s.data.toList.length = s.size := by rw [Array.length_toList]; rfl
theorem getD_some {l : List UInt8} {k : Nat} (h : k < l.length) : l[k]? = some (l.getD k 0) := by rw [List.getD_eq_getElem?_getD, List.getElem?_eq_getElem h]; rfl
theorem extract_toList (s : ByteArray) (a : Nat) : (s.extract a s.size).data.toList = s.data.toList.drop a := by
  rw [Lib.extract_data, List.take_of_length_le]
  rw [List.length_drop, toList_size]
  exact Nat.le_refl _
def LenPost (g : Nat) (s : ByteArray) (w : World) (ev : Ending) (w' : World) : Prop := ∃ n ok r, ev = .returned (.tuple #[.int .i64 n, .bool ok]) ∧ RdAt w' g r ∧ LenSpec s.data.toList n ok r.data.toList ∧ Tch (fun k => k = g) w w'
theorem lenPost_same {g : Nat} {s : ByteArray} {w : World} {n : Int} (h : RdAt w g s) (hl : LenSpec s.data.toList n false s.data.toList) : LenPost g s w (.returned (.tuple #[.int .i64 n, .bool false])) w :=
  ⟨n, false, s, rfl, h, hl, Tch.refl _ _⟩
theorem lenPost_good {g : Nat} {s : ByteArray} {w : World} {k m : Nat} (h : RdAt w g s) (hk : k + 1 ≤ s.size) (hl : LenSpec s.data.toList m (decide (m ≤ (s.data.toList.drop (k + 1)).length)) (s.data.toList.drop (k + 1))) :
    LenPost g s w (.returned (.tuple #[.int .i64 m, .bool (decide (m ≤ s.size - (k + 1)))])) ((w.setCell ⟨g, 0, none⟩ (.string (s.extract (k + 1) s.size))).drew) := by
  refine ⟨_, _, s.extract (k + 1) s.size, rfl, rdAt_set h _, ?_, ((Tch.refl (fun k => k = g) w).setCell ⟨g, 0, none⟩ (fun _ => rfl) _).drew⟩
  rw [extract_toList]
  rw [List.length_drop, toList_size] at hl
  exact hl
set_option maxRecDepth 100000 in
set_option maxHeartbeats 4000000 in
theorem length_c (g : Nat) (s : ByteArray) (w : World) (hg : RdAt w g s) (hs : s.size ≤ 65536) :
    Calls Tryz.prog 83 #[.pointer (some ⟨g, 0, none⟩)] w (LenPost g s w) := by
  have hc0 : w.cell? ⟨g, 0, none⟩ = some (.string s) := by rw [cell_of hg]; rfl
  have hfz : w.frozen? ⟨g, 0, none⟩ = false := fr_of hg 0
  have hgH := Lib.hid hg
  obtain ⟨l, hl⟩ : ∃ l, l = s.data.toList := ⟨_, rfl⟩
  have hsl : l.length = s.size := by rw [hl]; exact toList_size s
  replace hl := Lib.hid hl
  obtain ⟨n, hn⟩ : ∃ n, n = s.size := ⟨_, rfl⟩
  rw [← hn] at hsl hs
  have hsz : (s.size : Int) = (n : Int) := by omega
  replace hsl := Lib.hid hsl
  replace hn := Lib.hid hn
  clear hg
  go_enter Tryz.func83, Tryz.ntmps83
  go_wp2_with fail
  go_loopg [4, 5] n (fun g' v i W => ∃ k m : Nat, g' = n - k ∧ v = .int .i64 m ∧ i = .int .i64 k ∧ LenInv l k m ∧ W = w)
  case atStart => exact ⟨0, 0, rfl, rfl, rfl, lenInv_zero l, rfl⟩
  case round =>
    obtain ⟨k, m, hg', rfl, rfl, hI, rfl⟩ := hrel
    subst hg'
    have hkl := hI.1
    have hm := hI.2.2.1
    rw [hsl.out] at hkl
    have hIH := Lib.hid hI
    clear hI
    by_cases hkn : k < n
    · have hki : (k : Int) < (n : Int) := by omega
      have hix := fun (W : World) => str_idx (P := Tryz.prog) Tryz.underlying9 s k (by rw [← hn.out]; exact hkn) W
      rw [← hl.out] at hix
      have hat := Lib.hid (getD_some (l := l) (k := k) (by rw [hsl.out]; exact hkn))
      generalize l.getD k 0 = a at *
      obtain ⟨b, hb⟩ : ∃ b, b = a.toNat := ⟨_, rfl⟩
      have hb256 : b < 256 := by rw [hb]; exact a.toNat_lt
      rw [← hb] at hix
      replace hb := Lib.hid hb
      have hki64 : (k : Int) ≤ 65536 := by omega
      by_cases hd : 48 ≤ b ∧ b ≤ 57
      · obtain ⟨hd1, hd2⟩ := hd
        have hdH := Lib.hid (show isD a by unfold isD; rw [← hb.out]; exact ⟨hd1, hd2⟩)
        have hstep := Lib.hid (show 10 * m + (b - 48) ≤ 65536 → LenInv l (k + 1) (10 * m + (b - 48)) from fun h => by rw [hb.out] at h ⊢; exact lenInv_step hIH.out hat.out hdH.out h)
        have hbig := Lib.hid (show 65536 < 10 * m + (b - 48) → LenSpec l 0 false l from fun h => by rw [hb.out] at h; exact len_big hIH.out hat.out hdH.out h 0)
        have g1 : (48 : Int) ≤ (b : Int) := by omega
        have g2 : (b : Int) ≤ 57 := by omega
        have gw : ((b : Int) - 48) % 256 = (b : Int) - 48 := by omega
        have gs : (((10 * m + (b - 48) : Nat)) : Int) = (m : Int) * 10 + ((b : Int) - 48) := by omega
        replace gs := Lib.hid gs
        by_cases hz : k = 0 ∧ b = 48
        · obtain ⟨hk0, hb0⟩ := hz
          have gk : ((k : Int) == 0) = true := by rw [beq_iff_eq]; omega
          have gz : ((b : Int) == 48) = true := by rw [beq_iff_eq]; omega
          have hat0 := Lib.hid (show l[0]? = some 48 by have := hat.out; rw [hk0] at this; rw [this]; congr 1; exact UInt8.toNat_inj.1 (by rw [← hb.out, hb0]; rfl))
          replace hb0 := Lib.hid hb0
          replace hk0 := Lib.hid hk0
          by_cases h2 : n < 2
          · have hsp := Lib.hid (len_zero hat0.out (by rw [List.getElem?_eq_none (by rw [hsl.out]; omega)]; simp) 0)
            have q2 : (n : Int) < 2 := by omega
            go_wp2_with fail
            go_ret2
            exact lenPost_same hgH.out (by rw [← hl.out]; exact hsp.out)
          · have q2 : ¬ (n : Int) < 2 := by omega
            have h1s : 1 < s.size := by rw [← hn.out]; omega
            obtain ⟨c, hc⟩ : ∃ c, c = s[1]'h1s := ⟨_, rfl⟩
            have hl1 : l[1]? = some c := by rw [hl.out, hc, Array.getElem?_toList, Array.getElem?_eq_getElem h1s]; rfl
            by_cases h58 : c = 58
            · have q58 : (((s[1]'h1s).toNat : Int) != 58) = false := by rw [← hc, h58]; rfl
              have hmb : 10 * m + (b - 48) ≤ 65536 := by
                have := hIH.out.2.1
                rw [hk0.out] at this
                have e : val (l.take 0) = 0 := rfl
                have := hb0.out
                omega
              have q1 : ¬ (65536 : Int) < (m : Int) * 10 + ((b : Int) - 48) := by omega
              have hs1 := Lib.hid (hstep.out hmb)
              clear hmb hc hl1 h58
              go_wp2_with fail
              go_roundg (n - (k + 1))
              case measure => omega
              case rel => exact ⟨k + 1, _, rfl, by rw [gs.out], by go_num, hs1.out, rfl⟩
            · have q58 : (((s[1]'h1s).toNat : Int) != 58) = true := by
                rw [← hc, bne_iff_ne]
                intro h
                exact h58 (UInt8.toNat_inj.1 (by have : ((58 : UInt8).toNat : Int) = 58 := rfl; omega))
              have hsp := Lib.hid (len_zero hat0.out (by rw [hl1]; simpa using h58) 0)
              clear hc hl1 h58
              go_wp2_with fail
              go_ret2
              exact lenPost_same hgH.out (by rw [← hl.out]; exact hsp.out)
        · have gz2 : ((k : Int) == 0) = false ∨ ((b : Int) == 48) = false := by
            by_cases h : k = 0
            · right; rw [beq_eq_false_iff_ne]; intro h2; exact hz ⟨h, by omega⟩
            · left; rw [beq_eq_false_iff_ne]; omega
          clear hz
          rcases gz2 with gz | gz
          · by_cases hbg : 65536 < 10 * m + (b - 48)
            · have hsp := Lib.hid (hbig.out hbg)
              have q1 : (65536 : Int) < (m : Int) * 10 + ((b : Int) - 48) := by omega
              clear hbg
              go_wp2_with fail
              go_ret2
              exact lenPost_same hgH.out (by rw [← hl.out]; exact hsp.out)
            · have q1 : ¬ (65536 : Int) < (m : Int) * 10 + ((b : Int) - 48) := by omega
              have hs1 := Lib.hid (hstep.out (by omega))
              clear hbg
              go_wp2_with fail
              go_roundg (n - (k + 1))
              case measure => omega
              case rel => exact ⟨k + 1, _, rfl, by rw [gs.out], by go_num, hs1.out, rfl⟩
          · by_cases gk : ((k : Int) == 0) = true
            · by_cases hbg : 65536 < 10 * m + (b - 48)
              · have hsp := Lib.hid (hbig.out hbg)
                have q1 : (65536 : Int) < (m : Int) * 10 + ((b : Int) - 48) := by omega
                clear hbg
                go_wp2_with fail
                go_ret2
                exact lenPost_same hgH.out (by rw [← hl.out]; exact hsp.out)
              · have q1 : ¬ (65536 : Int) < (m : Int) * 10 + ((b : Int) - 48) := by omega
                have hs1 := Lib.hid (hstep.out (by omega))
                clear hbg
                go_wp2_with fail
                go_roundg (n - (k + 1))
                case measure => omega
                case rel => exact ⟨k + 1, _, rfl, by rw [gs.out], by go_num, hs1.out, rfl⟩
            · replace gk : ((k : Int) == 0) = false := by simpa using gk
              by_cases hbg : 65536 < 10 * m + (b - 48)
              · have hsp := Lib.hid (hbig.out hbg)
                have q1 : (65536 : Int) < (m : Int) * 10 + ((b : Int) - 48) := by omega
                clear hbg
                go_wp2_with fail
                go_ret2
                exact lenPost_same hgH.out (by rw [← hl.out]; exact hsp.out)
              · have q1 : ¬ (65536 : Int) < (m : Int) * 10 + ((b : Int) - 48) := by omega
                have hs1 := Lib.hid (hstep.out (by omega))
                clear hbg
                go_wp2_with fail
                go_roundg (n - (k + 1))
                case measure => omega
                case rel => exact ⟨k + 1, _, rfl, by rw [gs.out], by go_num, hs1.out, rfl⟩
      · have hdH := Lib.hid (show ¬ isD a by unfold isD; rw [← hb.out]; exact hd)
        have gz : ((b : Int) == 48) = false := by rw [beq_eq_false_iff_ne]; omega
        have gd : (48 : Int) ≤ (b : Int) → ¬ (b : Int) ≤ 57 := by omega
        by_cases hc58 : b = 58 ∧ 0 < k
        · obtain ⟨hb58, hk0⟩ := hc58
          have ha58 := Lib.hid (show l[k]? = some 58 by rw [hat.out]; congr 1; exact UInt8.toNat_inj.1 (by rw [← hb.out, hb58]; rfl))
          have hgood := Lib.hid (len_good hIH.out ha58.out)
          have q1 : ((b : Int) == 58) = true := by rw [beq_iff_eq]; omega
          have q2 : (48 : Int) ≤ (b : Int) := by omega
          have q3 : ¬ (b : Int) ≤ 57 := by omega
          have q4 : (0 : Int) < (k : Int) := by omega
          have q5 : (k : Int) + 1 ≤ (n : Int) := by omega
          clear gd hb58
          go_wp2_with fail
          go_region
          go_wp2_with fail
          go_ret2
          exact lenPost_good hgH.out (by omega) (by rw [← hl.out]; exact hgood.out)
        · have hsp := Lib.hid (len_none hIH.out hat.out hdH.out (by rintro ⟨e, h⟩; exact hc58 ⟨by rw [hb.out, e]; rfl, h⟩) 0)
          have q4 : ((b : Int) == 58) = true → ¬ (0 : Int) < (k : Int) := by intro h h2; rw [beq_iff_eq] at h; exact hc58 ⟨by omega, by omega⟩
          clear hc58
          by_cases q1 : (48 : Int) ≤ (b : Int)
          · have q3 := gd q1
            clear gd
            by_cases q5 : ((b : Int) == 58) = true
            · have q6 := q4 q5
              clear q4
              go_wp2_with fail
              all_goals (go_ret2; exact lenPost_same hgH.out (by rw [← hl.out]; exact hsp.out))
            · replace q5 : ((b : Int) == 58) = false := by simpa using q5
              clear q4
              go_wp2_with fail
              all_goals (go_ret2; exact lenPost_same hgH.out (by rw [← hl.out]; exact hsp.out))
          · have q5 : ((b : Int) == 58) = true ∨ ((b : Int) == 58) = false := by cases h : ((b : Int) == 58) <;> simp
            clear gd
            rcases q5 with q5 | q5
            · have q6 := q4 q5
              clear q4
              go_wp2_with fail
              all_goals (go_ret2; exact lenPost_same hgH.out (by rw [← hl.out]; exact hsp.out))
            · clear q4
              go_wp2_with fail
              all_goals (go_ret2; exact lenPost_same hgH.out (by rw [← hl.out]; exact hsp.out))
    · have hkn' : k = n := by omega
      subst hkn'
      have hki : ¬ (k : Int) < (k : Int) := by omega
      go_wp2_with fail
      go_ret2
      exact lenPost_same hgH.out (by rw [← hl.out]; exact len_over (by rw [hsl.out]; exact hIH.out) 0)
end Go.Proofs.YtbefkoljcacpcaaGreatDoor.Tm
set_option linter.unusedVariables false
set_option linter.unusedSimpArgs false
namespace Go.Proofs.YtbefkoljcacpcaaGreatDoor.Ref
open Go.RowKit Go.Proofs.YtbefkoljcacpcaaGreatDoor.B
def ic (l : List Nat) : List Value := l.map fun x => .int .i64 ((x : Nat) : Int)
theorem ic_get (l : List Nat) (i : Nat) (h : i < l.length) : (ic l)[i]? = some (.int .i64 ((l.getD i 0 : Nat) : Int)) := by
  simp [ic, List.getD_eq_getElem?_getD, List.getElem?_eq_getElem h]
theorem ic_append (a b : List Nat) : ic (a ++ b) = ic a ++ ic b := List.map_append ..
def RowI (w : World) (v : Value) (l : List Nat) : Prop := ∃ g cap, v = .slice (some ⟨g, 0, none⟩) l.length cap ∧ ∀ k, k < l.length → w.cell? ⟨g, k, none⟩ = some (.int .i64 ((l.getD k 0 : Nat) : Int))
theorem infoInt : (Tryz.prog.info? 3).map (fun i => (i.zero, i.size, i.bytes)) = some (some (.int .i64 0), 1, 8) := by kernel_rfl
theorem own_cells {w : World} {base : Nat} {g cap : Nat} {l : List Nat} (h : w.ownsRow base 3 1 (.slice (some ⟨g, 0, none⟩) l.length cap) l.length (ic l)) :
    ∀ k, k < l.length → w.cell? ⟨g, k, none⟩ = some (.int .i64 ((l.getD k 0 : Nat) : Int)) := by
  intro k hk
  rw [h.cellAt k (by omega), ic_get l k hk]
theorem any_next (l : List Nat) (k j : Nat) (h : j < l.length) : (l.take (j + 1)).any (fun d => k % d == 0) = ((l.take j).any (fun d => k % d == 0) || (k % l.getD j 0 == 0)) := by
  rw [List.take_add_one, List.any_append, List.getD_eq_getElem?_getD, List.getElem?_eq_getElem h]
  simp
theorem pst_app {w w0 w1 : World} {g cap t : Nat} {v : Value} (ho : w.ownsRow w0.heap.size 3 1 v (pst t).length (ic (pst t))) (ha : (pst t).any (fun d => (t + 2) % d == 0) = false) (ht : Tch (fun _ => False) w0 w)
    (o : Obj) (h1 : w1.ownsRow w0.heap.size 3 1 (.slice (some ⟨g, 0, none⟩) ((pst t).length + 1) cap) ((pst t).length + 1) (ic (pst t) ++ [.int .i64 ((t : Int) + 2)])) (h2 : (w.alloc o).grownBy w1 v.ownBlock) :
    w1.ownsRow w0.heap.size 3 1 (.slice (some ⟨g, 0, none⟩) ((pst t).length + 1) cap) (pst (t + 1)).length (ic (pst (t + 1))) ∧ Tch (fun _ => False) w0 w1 := by
  have e : pst (t + 1) = pst t ++ [t + 2] := by rw [pst, pstep, if_neg (by rw [ha]; decide)]
  rw [e, List.length_append, ic_append]
  exact ⟨h1, own_tch (ht.alloc _) (ho.alloc _) (Nat.le_refl _) h2⟩
set_option maxRecDepth 100000 in
set_option maxHeartbeats 4000000 in
theorem primes_any (n T : Nat) (hn : 1 ≤ n) (hn1 : n ≤ 100) (hT : T ≤ 400) (h1 : ∀ t, t < T → (pst t).length < n) (h2 : (pst T).length = n) (w : World) :
    Calls Tryz.prog 72 #[.int .i64 (n : Int)] w fun e w' => ∃ v, e = .returned v ∧ RowI w' v (pst T) ∧ Tch (fun _ => False) w w' := by
  obtain ⟨i3, hi3, hz3, hs3, hb3⟩ := info_parts infoInt
  have h1H := Lib.hid h1
  have h2H := Lib.hid h2
  have hst := Lib.hid (show w.ownsRow w.heap.size 3 1 (.slice none 0 0) (pst 0).length (ic (pst 0)) from ⟨rfl, .inl ⟨rfl, rfl⟩⟩)
  clear h1 h2
  go_enter Tryz.func72, Tryz.ntmps72
  go_wp2_with fail
  go_loopg [3, 4] T (fun g v kv W => ∃ t : Nat, g = T - t ∧ t ≤ T ∧ kv = .int .i64 ((t : Int) + 2) ∧ W.ownsRow w.heap.size 3 1 v (pst t).length (ic (pst t)) ∧ Tch (fun _ => False) w W)
  case atStart => exact ⟨0, rfl, by omega, rfl, hst.out, Tch.refl _ _⟩
  case round =>
    clear hst
    obtain ⟨t, hg, ht, rfl, ho, htc⟩ := hrel
    subst hg
    by_cases htl : t < T
    · have hlt := h1H.out t htl
      have hlti : ((pst t).length : Int) < (n : Int) := by omega
      have hti : (t : Int) < 400 := by omega
      have hsm := Lib.hid (pst_small t)
      have hoH := Lib.hid ho
      have htcH := Lib.hid htc
      rcases ho.2 with ⟨hv, hl0⟩ | ⟨gv, cv, cur, hv, _, _, _, _, _, _⟩
      · subst hv
        clear htc
        have hap := Lib.hid (fun g cap w1 o ha h1 h2 => pst_app (w1 := w1) (g := g) (cap := cap) hoH.out ha htcH.out o h1 h2)
        have hownH := hoH
        have hlti' : (0 : Int) < (n : Int) := by omega
        replace hl0 := Lib.hid hl0
        clear hlti
        clear ho
        go_wp2_with fail
        go_loopg [5, 6] (pst t).length (fun g iv jv W => ∃ j : Nat, g = (pst t).length - j ∧ j ≤ (pst t).length ∧ iv = .bool (!((pst t).take j).any (fun d => (t + 2) % d == 0)) ∧ jv = .int .i64 j ∧ W = wr)
        case atStart => exact ⟨0, rfl, by omega, rfl, rfl, rfl⟩
        case round =>
          obtain ⟨j, hgj, hj, rfl, rfl, rfl⟩ := hrel
          subst hgj
          by_cases hjl : j < (pst t).length
          · exact absurd hjl (by have := hl0.out; omega)
          · have hje : j = (pst t).length := by omega
            subst hje
            rw [List.take_of_length_le (Nat.le_refl _)]
            cases hA : (pst t).any (fun d => (t + 2) % d == 0)
            · have hap2 := Lib.hid (fun g cap w1 o h1 h2 => hap.out g cap w1 o hA h1 h2)
              clear hA
              go_wp2_with (at_builtin; refine wpList_append_lies _ (by rfl) _ _ _ (by rfl) w.heap.size 3 i3 _ 1 8 Tryz.underlying70 hi3 hz3 hs3 hb3 rfl (by omega) (.slice none 0 0) (pst t).length _ (by rfl) (hownH.out.alloc _) ⟨wr.heap.size, 0, none⟩ 1 1 [.int .i64 ((t : Int) + 2)] (by rfl) (by rfl) (World.news_of_block (heap_alloc_at wr _)) (by simp [Value.oneCell']) (by omega) (by unfold maxLen; omega) (by omega) (by simp; have := htcH.out.size; omega) (wr.heap.size + 1) (by simp) ?_; intro g cap w1 hown1 hgrow hat hlt)
              go_roundg (T - (t + 1))
              case measure => omega
              case rel => exact ⟨t + 1, rfl, by omega, by go_num, hap2.out _ _ _ _ hown1 hgrow⟩
            · have e := Lib.hid (show pst (t + 1) = pst t from by rw [pst, pstep, if_pos hA])
              clear hA
              go_wp2_with fail
              go_roundg (T - (t + 1))
              case measure => omega
              case rel => exact ⟨t + 1, rfl, by omega, by go_num, by rw [e.out]; exact hownH.out, htcH.out⟩
      · subst hv
        clear htc
        have hap := Lib.hid (fun g cap w1 o ha h1 h2 => pst_app (w1 := w1) (g := g) (cap := cap) hoH.out ha htcH.out o h1 h2)
        have hownH := hoH
        have hcs := Lib.hid (own_cells ho)
        clear ho
        go_wp2_with fail
        go_loopg [5, 6] (pst t).length (fun g iv jv W => ∃ j : Nat, g = (pst t).length - j ∧ j ≤ (pst t).length ∧ iv = .bool (!((pst t).take j).any (fun d => (t + 2) % d == 0)) ∧ jv = .int .i64 j ∧ W = wr)
        case atStart => exact ⟨0, rfl, by omega, rfl, rfl, rfl⟩
        case round =>
          obtain ⟨j, hgj, hj, rfl, rfl, rfl⟩ := hrel
          subst hgj
          by_cases hjl : j < (pst t).length
          · have hc := hcs.out j hjl
            have hd := hsm.out ((pst t).getD j 0) (by rw [List.getD_eq_getElem?_getD, List.getElem?_eq_getElem hjl]; exact List.getElem_mem hjl)
            have hnx := Lib.hid (any_next (pst t) (t + 2) j hjl)
            have hjli : (j : Int) < ((pst t).length : Int) := by omega
            generalize hdd : (pst t).getD j 0 = d at *
            have hd2 : (2 : Int) ≤ (d : Int) := by omega
            have hd3 : (d : Int) < 402 := by omega
            have hmod : ((t : Int) + 2) % (d : Int) = (((t + 2) % d : Nat) : Int) := (Int.natCast_emod (t + 2) d).symm
            clear hdd
            generalize hA : ((pst t).take j).any (fun d => (t + 2) % d == 0) = A at *
            by_cases hz : (t + 2) % d = 0
            · have hz0 : ((t : Int) + 2) % (d : Int) = 0 := by omega
              replace hz := Lib.hid hz
              clear hmod hA
              go_wp2_with fail
              go_roundg ((pst t).length - (j + 1))
              case measure => omega
              case rel => exact ⟨j + 1, rfl, by omega, by rw [hnx.out, hz.out]; simp, by go_num, rfl⟩
            · have hz0 : ¬ ((t : Int) + 2) % (d : Int) = 0 := by omega
              replace hz := Lib.hid hz
              clear hmod hA
              go_wp2_with fail
              go_roundg ((pst t).length - (j + 1))
              case measure => omega
              case rel => exact ⟨j + 1, rfl, by omega, by rw [hnx.out, beq_eq_false_iff_ne.2 hz.out]; simp, by go_num, rfl⟩
          · have hje : j = (pst t).length := by omega
            subst hje
            rw [List.take_of_length_le (Nat.le_refl _)]
            cases hA : (pst t).any (fun d => (t + 2) % d == 0)
            · have hap2 := Lib.hid (fun g cap w1 o h1 h2 => hap.out g cap w1 o hA h1 h2)
              clear hA
              go_wp2_with (at_builtin; refine wpList_append_lies _ (by rfl) _ _ _ (by rfl) w.heap.size 3 i3 _ 1 8 Tryz.underlying70 hi3 hz3 hs3 hb3 rfl (by omega) (.slice (some ⟨gv, 0, none⟩) (pst t).length cv) (pst t).length _ (by rfl) (hownH.out.alloc _) ⟨wr.heap.size, 0, none⟩ 1 1 [.int .i64 ((t : Int) + 2)] (by rfl) (by rfl) (World.news_of_block (heap_alloc_at wr _)) (by simp [Value.oneCell']) (by omega) (by unfold maxLen; omega) (by omega) (by simp; have := htcH.out.size; omega) (wr.heap.size + 1) (by simp) ?_; intro g cap w1 hown1 hgrow hat hlt)
              go_roundg (T - (t + 1))
              case measure => omega
              case rel => exact ⟨t + 1, rfl, by omega, by go_num, hap2.out _ _ _ _ hown1 hgrow⟩
            · have e := Lib.hid (show pst (t + 1) = pst t from by rw [pst, pstep, if_pos hA])
              clear hA
              go_wp2_with fail
              go_roundg (T - (t + 1))
              case measure => omega
              case rel => exact ⟨t + 1, rfl, by omega, by go_num, by rw [e.out]; exact hownH.out, htcH.out⟩
    · obtain rfl : t = T := by omega
      have hli := h2H.out
      have hlin : ((pst t).length : Int) = (n : Int) := by omega
      rcases ho.2 with ⟨hv, hl0⟩ | ⟨gv, cv, cur, hv, _, _, _, _, _, _⟩
      · omega
      · subst hv
        have hcs := Lib.hid (own_cells ho)
        replace htc := Lib.hid htc
        clear ho
        have hlf : ¬ ((pst t).length : Int) < (n : Int) := by omega
        clear hlin
        replace hli := Lib.hid hli
        go_wp2_with fail
        go_ret
        exact ⟨_, rfl, ⟨gv, cv, rfl, hcs.out⟩, htc.out⟩
end Go.Proofs.YtbefkoljcacpcaaGreatDoor.Ref
