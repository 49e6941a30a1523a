/- What LawPatchCommutes lean on, part j of 29: the texts ShaS, TmZ, TmWb, RefE, ShaD. -/
import Derived.Test.YtbiioaggilaebaaGreatDoorTWf
import Derived.Test.YtbiioaggilaebaaGreatDoorTWh
import Derived.Test.YtbiioaggilaebaaGreatDoorTWi
import Derived.Deep.AppendLies
import Derived.OwnWalk
import Derived.Handy
import Derived.Laws.Rows
import Derived.Deep.RegionLaw
set_option linter.unusedVariables false
set_option linter.unusedSimpArgs false
namespace Go.Proofs.YtbiioaggilaebaaGreatDoor.Sha
open Go.RowKit Go.Proofs.YtbiioaggilaebaaGreatDoor.B
def Mem (w0 w : World) (hs : List W) : Prop := hs.length = 8 ∧ St w w0.heap.size hs ∧ Tch (fun _ => False) w0 w
def Rest1 (s b : ByteArray) (hs : List W) : Prop := b.size ≤ s.size ∧ b.size % 64 = s.size % 64 ∧ ∀ tail, runs K hs (b.data.toList ++ tail) = runs K H0 (s.data.toList ++ tail)
def Rest2 (T : List W) (b : ByteArray) (hs : List W) : Prop := b.size % 64 = 0 ∧ runs K hs b.data.toList = T
theorem block_list (hb : Nat) (hs : List W) (hl : hs.length = 8) (b : ByteArray) (hbl : b.size = 64) (w : World) (hSt : St w hb hs) :
    Calls Tryz.prog 111 #[.pointer (some ⟨hb, 0, none⟩), .string b] w fun e w' => e = .returned (.tuple #[]) ∧ St w' hb (compress K hs (words b.data.toList)) ∧ Tch (· = hb) w w' := by
  obtain ⟨y0, y1, y2, y3, y4, y5, y6, y7, rfl⟩ := eight hl
  exact block_any hb _ _ _ _ _ _ _ _ b hbl w hSt
theorem mem_start (w : World) : Mem w (w.alloc (.cells (ucells H0) 181)) H0 := ⟨rfl, heap_alloc_at _ _, (Tch.refl _ _).alloc _⟩
theorem mem_next {w0 w w' : World} {hs hs' : List W} (h : Mem w0 w hs) (hl : hs'.length = 8) (h1 : St w' w0.heap.size hs') (h2 : Tch (· = w0.heap.size) w w') : Mem w0 w' hs' := by
  obtain ⟨_, _, c⟩ := h
  exact ⟨hl, h1, h2.os.trans c.os, h2.tape.trans c.tape, h2.output.trans c.output, Nat.le_trans c.size h2.size, fun k hk _ => (h2.block k (Nat.lt_of_lt_of_le hk c.size) (show ¬ k = _ from by omega)).trans (c.block k hk id)⟩
theorem ext_lo (b : ByteArray) (h : 64 ≤ b.size) : (b.extract 0 64).size = 64 := by rw [ByteArray.size_extract]; omega
theorem ext_hi (b : ByteArray) : (b.extract 64 b.size).size = b.size - 64 := by rw [ByteArray.size_extract]; omega
theorem ext_lo_list (b : ByteArray) : (b.extract 0 64).data.toList = b.data.toList.take 64 := by
  rw [ByteArray.data_extract, Array.toList_extract]; simp [List.extract]
theorem ext_hi_list (b : ByteArray) : (b.extract 64 b.size).data.toList = b.data.toList.drop 64 := by
  rw [ByteArray.data_extract, Array.toList_extract]
  simp only [List.extract]
  exact List.take_of_length_le (by rw [List.length_drop, Array.length_toList]; exact Nat.le_refl _)
theorem len_list (b : ByteArray) : b.data.toList.length = b.size := by rw [Array.length_toList]; rfl
theorem rest1_next {s b : ByteArray} {hs : List W} (h : Rest1 s b hs) (hb : 64 ≤ b.size) : Rest1 s (b.extract 64 b.size) (compress K hs (words (b.extract 0 64).data.toList)) := by
  obtain ⟨h1, h2, h3⟩ := h
  refine ⟨by rw [ext_hi]; omega, by rw [ext_hi]; omega, fun tail => ?_⟩
  rw [← h3 tail, runs_long K hs (b.data.toList ++ tail) (by rw [List.length_append, len_list]; omega), ext_lo_list, ext_hi_list,
    List.take_append_of_le_length (by rw [len_list]; exact hb), List.drop_append_of_le_length (by rw [len_list]; exact hb)]
theorem rest2_next {T : List W} {b : ByteArray} {hs : List W} (h : Rest2 T b hs) (hb : 64 ≤ b.size) : Rest2 T (b.extract 64 b.size) (compress K hs (words (b.extract 0 64).data.toList)) := by
  obtain ⟨h1, h2⟩ := h
  refine ⟨by rw [ext_hi]; omega, ?_⟩
  rw [← h2, runs_long K hs b.data.toList (by rw [len_list]; omega), ext_lo_list, ext_hi_list]
theorem repeat_zero : ∀ c, Lib.repeatL [0] c = List.replicate c 0
  | 0 => rfl
  | c + 1 => by rw [Lib.repeatL, repeat_zero c]; rfl
theorem mem_below {w0 w w' : World} {hs : List W} (h : Mem w0 w hs) (h2 : Below w.heap.size w w') : Mem w0 w' hs :=
  ⟨h.1, (h2.block _ (heap_lt h.2.1)).trans h.2.1, h.2.2.trans (Tch.of_new h2)⟩
theorem conv1 (W : World) (n : Int) (x : UInt8) (h : n = (x.toNat : Int)) :
    (convert 69 9 (.slice (some ⟨W.heap.size, 0, none⟩) 1 1)).run Tryz.prog (W.alloc (.cells #[.int .u8 n] 5)) = .ok (.string ⟨#[x]⟩) (W.alloc (.cells #[.int .u8 n] 5)) := by
  subst h
  refine run_convert_bytes_back _ 69 9 5 _ 1 [x] Tryz.underlying69 Tryz.underlying5 Tryz.underlying9 fun j hj => ?_
  obtain rfl : j = 0 := by simp at hj; exact hj
  rw [add0, cell_of (heap_alloc_at _ _)]; rfl
theorem mem_alloc {w0 w : World} {hs : List W} (h : Mem w0 w hs) (o : Obj) : Mem w0 (w.alloc o) hs :=
  ⟨h.1, (heap_alloc_lt _ _ _ (heap_lt h.2.1)).trans h.2.1, h.2.2.alloc o⟩
theorem rest2_start {s b q : ByteArray} {hs : List W} (h : Rest1 s b hs) (hb : b.size < 64) (hq : q.data.toList = b.data.toList ++ (128 :: List.replicate ((119 - b.size) % 64) 0 ++ (be8 (s.size * 8)).take 8)) :
    Rest2 (runs K H0 (s.data.toList ++ padding s.data.toList.length)) q hs := by
  obtain ⟨h1, h2, h3⟩ := h
  have e8 : (be8 (s.size * 8)).take 8 = be8 (s.size * 8) := List.take_of_length_le (by simp [be8])
  have hp : padding s.data.toList.length = 128 :: List.replicate ((119 - b.size) % 64) 0 ++ be8 (s.size * 8) := by
    rw [padding, len_list, ← h2, Nat.mod_eq_of_lt hb]
  rw [e8, ← hp] at hq
  refine ⟨?_, by rw [hq, h3]⟩
  rw [← len_list, hq, hp]
  simp [be8, len_list]
  omega
def Padded (b : ByteArray) (e : List UInt8) (j : Nat) (q : ByteArray) : Prop := q.data.toList = b.data.toList ++ (128 :: List.replicate ((119 - b.size) % 64) 0 ++ e.take j)
theorem pad_start (b z : ByteArray) (c : Nat) (hz : z.data.toList = List.replicate ((119 - b.size) % 64) 0) (e : List UInt8) : Padded b e 0 (b ++ { data := #[128] } ++ z) := by
  unfold Padded
  simp [ByteArray.data_append, hz]
theorem padded_next {b q : ByteArray} {n j : Nat} (h : Padded b (be8 n) j q) (hj : j < 8) : Padded b (be8 n) (j + 1) (q ++ ⟨#[UInt8.ofNat (n / 2 ^ (8 * (7 - j)))]⟩) := by
  unfold Padded at *
  have hl : (be8 n).length = 8 := by simp [be8]
  have : (be8 n).take (j + 1) = (be8 n).take j ++ [UInt8.ofNat (n / 2 ^ (8 * (7 - j)))] := by
    rw [List.take_add_one]
    congr 1
    simp [be8, List.getElem?_range hj]
  rw [ByteArray.data_append, Array.toList_append, h, this]
  simp
theorem padded_size {b q : ByteArray} {e : List UInt8} {j : Nat} (h : Padded b e j q) (hb : b.size < 64) (he : e.length = 8) : (q.size : Int) < 200 := by
  have := congrArg List.length h
  rw [len_list] at this
  simp [len_list, he] at this
  omega
theorem rest2_end {T : List W} {b : ByteArray} {hs : List W} (h : Rest2 T b hs) (hb : b.size = 0) : T = hs := by
  rw [← h.2, runs_short K hs _ (by rw [len_list]; omega)]
theorem idx8 (W : World) (y0 y1 y2 y3 y4 y5 y6 y7 : BitVec 32) : ∀ j, j < 8 → (Instr.index 181 (.agg #[.int .u32 (nv y0), .int .u32 (nv y1), .int .u32 (nv y2), .int .u32 (nv y3), .int .u32 (nv y4), .int .u32 (nv y5), .int .u32 (nv y6), .int .u32 (nv y7)]) (.int .i64 (j : Nat))).run Tryz.prog W = .ok (.int .u32 (nv (([y0, y1, y2, y3, y4, y5, y6, y7] : List (BitVec 32)).getD j 0))) W
  | 0, _ => by kernel_rfl
  | 1, _ => by kernel_rfl
  | 2, _ => by kernel_rfl
  | 3, _ => by kernel_rfl
  | 4, _ => by kernel_rfl
  | 5, _ => by kernel_rfl
  | 6, _ => by kernel_rfl
  | 7, _ => by kernel_rfl
  | n + 8, h => absurd h (by omega)
theorem flat_next {ys : List W} {j : Nat} (hl : ys.length = 8) (hj : j < 8) : (ys.take (j + 1)).flatMap ofWord = (ys.take j).flatMap ofWord ++ ofWord (ys.getD j 0) := by
  rw [List.take_add_one, List.flatMap_append, List.getD_eq_getElem?_getD, List.getElem?_eq_getElem (by omega)]
  simp
theorem flat_len : ∀ {ys : List W}, ys.length = 8 → (ys.flatMap ofWord).length = 8 * 4 := by
  intro ys h
  obtain ⟨y0, y1, y2, y3, y4, y5, y6, y7, rfl⟩ := eight h
  rfl
theorem byte_of (x : W) : ((UInt8.ofNat x.toNat).toNat : Int) = nv x % 256 := by
  rw [UInt8.toNat_ofNat']; unfold nv; omega
theorem word_cells (x : W) : ([.int .u8 (nv x / 16777216 % 256), .int .u8 (nv x / 65536 % 256), .int .u8 (nv x / 256 % 256), .int .u8 (nv x % 256)] : List Value) = bc (ofWord x) := by
  have h24 : nv x / (16777216 : Int) = nv (x >>> 24) := nv_shr x 24
  have h16 : nv x / (65536 : Int) = nv (x >>> 16) := nv_shr x 16
  have h8 : nv x / (256 : Int) = nv (x >>> 8) := nv_shr x 8
  rw [h24, h16, h8, ← byte_of, ← byte_of, ← byte_of, ← byte_of]; rfl
theorem sum_next {w wr w1 : World} {g cap j B : Nat} {v : Value} {yj : W} {ys : List W} (ho : wr.ownsRow B 5 1 v (j * 4) (bc ((ys.take j).flatMap ofWord)))
    (hn : (ys.take (j + 1)).flatMap ofWord = (ys.take j).flatMap ofWord ++ ofWord yj) (ht : Tch (fun _ => False) w wr) (hB : B ≤ wr.heap.size) (hw : w.heap.size ≤ B)
    (h1 : w1.ownsRow B 5 1 (.slice (some ⟨g, 0, none⟩) (j * 4 + 4) cap) (j * 4 + 4) (bc ((ys.take j).flatMap ofWord) ++ [.int .u8 (nv yj / 16777216 % 256), .int .u8 (nv yj / 65536 % 256), .int .u8 (nv yj / 256 % 256), .int .u8 (nv yj % 256)]))
    (h2 : (wr.alloc (.cells #[.int .u8 (nv yj / 16777216 % 256), .int .u8 (nv yj / 65536 % 256), .int .u8 (nv yj / 256 % 256), .int .u8 (nv yj % 256)] 5)).grownBy w1 v.ownBlock) :
    w1.ownsRow B 5 1 (.slice (some ⟨g, 0, none⟩) (j * 4 + 4) cap) ((j + 1) * 4) (bc ((ys.take (j + 1)).flatMap ofWord)) ∧ Tch (fun _ => False) w w1 ∧ B ≤ w1.heap.size := by
  rw [word_cells] at h1
  refine ⟨by rw [hn, bc_append, show (j + 1) * 4 = j * 4 + 4 from by omega]; exact h1, own_tch (ht.alloc _) (ho.alloc _) hw h2, ?_⟩
  have := h2.size
  simp at this
  omega
set_option maxRecDepth 100000 in
set_option maxHeartbeats 4000000 in
theorem Sum_any (s : ByteArray) (hsz : s.size ≤ 140737488351232) (w : World) :
    Calls Tryz.prog 74 #[.string s] w fun e w' => e = .returned (.string (sha K H0 s)) ∧ Tch (fun _ => False) w w' := by
  have hsz := Lib.hid hsz
  go_enter Tryz.func74, Tryz.ntmps74
  go_wp2_with fail
  go_loopg [4] s.size (fun g r wr => ∃ (b : ByteArray) (hs : List W), g = b.size ∧ r = .string b ∧ Mem w wr hs ∧ Rest1 s b hs)
  case atStart => exact ⟨s, H0, rfl, rfl, mem_start w, Nat.le_refl _, rfl, fun _ => rfl⟩
  case round =>
    obtain ⟨b, hs, rfl, rfl, hm, hr⟩ := hrel
    by_cases hb : 64 ≤ b.size
    · have hgo : ((64 : Int) ≤ (b.size : Int)) := by omega
      have hN := Lib.hid (fun w' h1 h2 => mem_next (w' := w') hm (compress_length K hs (words (b.extract 0 64).data.toList)) h1 h2)
      have hC := Lib.hid (block_list w.heap.size hs hm.1 (b.extract 0 64) (ext_lo b hb) wr hm.2.1)
      have hR := Lib.hid (rest1_next hr hb)
      have hsz := Lib.hid (ext_hi b)
      clear hm hr
      go_wp2_with (go_at_call 111; refine (hC.out).mono ?_; rintro e w' ⟨rfl, h1, h2⟩; have hm := Lib.hid (hN.out _ h1 h2); clear h1 h2)
      go_roundg (b.size - 64)
      case measure => omega
      case rel => exact ⟨b.extract 64 b.size, _, hsz.out.symm, rfl, hm.out, hR.out⟩
    · have hgo : ¬ ((64 : Int) ≤ (b.size : Int)) := by omega
      have hbs : b.size < 64 := by omega
      obtain ⟨z, hz⟩ : ∃ z : ByteArray, z = ⟨(Lib.repeatL [0] ((119 - b.size) % 64)).toArray⟩ := ⟨_, rfl⟩
      have hC := Lib.hid (Tryz.strings_Repeat ⟨#[0]⟩ ((119 - b.size) % 64) wr (by omega) (by show 1 * _ ≤ _; omega))
      rw [show (((119 - b.size) % 64 : Nat) : Int) = (119 - (b.size : Int)) % 64 from by omega, ← hz] at hC
      have hzl := Lib.hid (show z.data.toList = List.replicate ((119 - b.size) % 64) 0 from by rw [hz]; exact repeat_zero _)
      have hzs := Lib.hid (show z.size = (119 - b.size) % 64 from by rw [← len_list, hzl.out, List.length_replicate])
      have hz64 : (z.size : Int) < 64 := by have := hzs.out; omega
      have hmH := Lib.hid hm
      have hrH := Lib.hid hr
      have hbs' : (b.size : Int) < 64 := by omega
      clear hm hr hz
      go_wp2_with (go_at_call 112; refine (hC.out).mono ?_; rintro e w' ⟨rfl, hw'⟩; have hm := Lib.hid (mem_below hmH.out hw'); clear hw')
      have hq0 := Lib.hid (pad_start b z 0 hzl.out (be8 (s.size * 8)))
      clear hC hmH hzl
      generalize b ++ ({ data := #[128] } : ByteArray) ++ z = q0 at *
      go_loopg [5, 7] 8 (fun g l i W => ∃ (j : Nat) (q : ByteArray), g = 8 - j ∧ j ≤ 8 ∧ l = .string q ∧ i = .int .i64 (7 - (j : Int)) ∧ Padded b (be8 (s.size * 8)) j q ∧ Mem w W hs)
      case atStart => exact ⟨0, q0, rfl, by omega, rfl, rfl, hq0.out, hm.out⟩
      case round =>
        clear hq0 hm
        obtain ⟨j, q, hg, hj, rfl, rfl, hq, hm⟩ := hrel
        subst hg
        by_cases hjl : j < 8
        · have hqs : (q.size : Int) < 200 := padded_size hq hbs (by simp [be8])
          have hqH := Lib.hid hq
          have hmH := Lib.hid hm
          clear hq hm
          obtain rfl | rfl | rfl | rfl | rfl | rfl | rfl | rfl : j = 0 ∨ j = 1 ∨ j = 2 ∨ j = 3 ∨ j = 4 ∨ j = 5 ∨ j = 6 ∨ j = 7 := by omega
          · obtain ⟨x, hx⟩ : ∃ x, x = UInt8.ofNat (s.size * 8 / 2 ^ (8 * (7 - 0))) := ⟨_, rfl⟩
            have hcv := fun W : World => conv1 W ((s.size : Int) * 8 / 72057594037927936) x (by have := hsz.out; rw [hx, UInt8.toNat_ofNat']; omega)
            have hnx := Lib.hid (padded_next hqH.out (by decide : 0 < 8))
            rw [← hx] at hnx
            clear hx
            go_wp2_with fail
            go_roundg (8 - (0 + 1))
            case measure => omega
            case rel => exact ⟨0 + 1, _, rfl, by omega, rfl, by go_num, hnx.out, (mem_alloc hmH.out _)⟩
          · obtain ⟨x, hx⟩ : ∃ x, x = UInt8.ofNat (s.size * 8 / 2 ^ (8 * (7 - 1))) := ⟨_, rfl⟩
            have hcv := fun W : World => conv1 W ((s.size : Int) * 8 / 281474976710656) x (by have := hsz.out; rw [hx, UInt8.toNat_ofNat']; omega)
            have hnx := Lib.hid (padded_next hqH.out (by decide : 1 < 8))
            rw [← hx] at hnx
            clear hx
            go_wp2_with fail
            go_roundg (8 - (1 + 1))
            case measure => omega
            case rel => exact ⟨1 + 1, _, rfl, by omega, rfl, by go_num, hnx.out, (mem_alloc hmH.out _)⟩
          · obtain ⟨x, hx⟩ : ∃ x, x = UInt8.ofNat (s.size * 8 / 2 ^ (8 * (7 - 2))) := ⟨_, rfl⟩
            have hcv := fun W : World => conv1 W (((s.size : Int) * 8 / 1099511627776) % 256) x (by have := hsz.out; rw [hx, UInt8.toNat_ofNat']; omega)
            have hnx := Lib.hid (padded_next hqH.out (by decide : 2 < 8))
            rw [← hx] at hnx
            clear hx
            go_wp2_with fail
            go_roundg (8 - (2 + 1))
            case measure => omega
            case rel => exact ⟨2 + 1, _, rfl, by omega, rfl, by go_num, hnx.out, (mem_alloc hmH.out _)⟩
          · obtain ⟨x, hx⟩ : ∃ x, x = UInt8.ofNat (s.size * 8 / 2 ^ (8 * (7 - 3))) := ⟨_, rfl⟩
            have hcv := fun W : World => conv1 W (((s.size : Int) * 8 / 4294967296) % 256) x (by have := hsz.out; rw [hx, UInt8.toNat_ofNat']; omega)
            have hnx := Lib.hid (padded_next hqH.out (by decide : 3 < 8))
            rw [← hx] at hnx
            clear hx
            go_wp2_with fail
            go_roundg (8 - (3 + 1))
            case measure => omega
            case rel => exact ⟨3 + 1, _, rfl, by omega, rfl, by go_num, hnx.out, (mem_alloc hmH.out _)⟩
          · obtain ⟨x, hx⟩ : ∃ x, x = UInt8.ofNat (s.size * 8 / 2 ^ (8 * (7 - 4))) := ⟨_, rfl⟩
            have hcv := fun W : World => conv1 W (((s.size : Int) * 8 / 16777216) % 256) x (by have := hsz.out; rw [hx, UInt8.toNat_ofNat']; omega)
            have hnx := Lib.hid (padded_next hqH.out (by decide : 4 < 8))
            rw [← hx] at hnx
            clear hx
            go_wp2_with fail
            go_roundg (8 - (4 + 1))
            case measure => omega
            case rel => exact ⟨4 + 1, _, rfl, by omega, rfl, by go_num, hnx.out, (mem_alloc hmH.out _)⟩
          · obtain ⟨x, hx⟩ : ∃ x, x = UInt8.ofNat (s.size * 8 / 2 ^ (8 * (7 - 5))) := ⟨_, rfl⟩
            have hcv := fun W : World => conv1 W (((s.size : Int) * 8 / 65536) % 256) x (by have := hsz.out; rw [hx, UInt8.toNat_ofNat']; omega)
            have hnx := Lib.hid (padded_next hqH.out (by decide : 5 < 8))
            rw [← hx] at hnx
            clear hx
            go_wp2_with fail
            go_roundg (8 - (5 + 1))
            case measure => omega
            case rel => exact ⟨5 + 1, _, rfl, by omega, rfl, by go_num, hnx.out, (mem_alloc hmH.out _)⟩
          · obtain ⟨x, hx⟩ : ∃ x, x = UInt8.ofNat (s.size * 8 / 2 ^ (8 * (7 - 6))) := ⟨_, rfl⟩
            have hcv := fun W : World => conv1 W (((s.size : Int) * 8 / 256) % 256) x (by have := hsz.out; rw [hx, UInt8.toNat_ofNat']; omega)
            have hnx := Lib.hid (padded_next hqH.out (by decide : 6 < 8))
            rw [← hx] at hnx
            clear hx
            go_wp2_with fail
            go_roundg (8 - (6 + 1))
            case measure => omega
            case rel => exact ⟨6 + 1, _, rfl, by omega, rfl, by go_num, hnx.out, (mem_alloc hmH.out _)⟩
          · obtain ⟨x, hx⟩ : ∃ x, x = UInt8.ofNat (s.size * 8 / 2 ^ (8 * (7 - 7))) := ⟨_, rfl⟩
            have hcv := fun W : World => conv1 W ((s.size : Int) * 8 % 256) x (by have := hsz.out; rw [hx, UInt8.toNat_ofNat']; omega)
            have hnx := Lib.hid (padded_next hqH.out (by decide : 7 < 8))
            rw [← hx] at hnx
            clear hx
            go_wp2_with fail
            go_roundg (8 - (7 + 1))
            case measure => omega
            case rel => exact ⟨7 + 1, _, rfl, by omega, rfl, by go_num, hnx.out, (mem_alloc hmH.out _)⟩
        · have hj8 : j = 8 := by omega
          subst hj8
          have hr2 := Lib.hid (rest2_start hrH.out hbs hq)
          have hmH := Lib.hid hm
          clear hq hm hrH
          go_wp2_with fail
          clear hbs' hz64 hzs
          go_loopg [5] q.size (fun g l W => ∃ (b : ByteArray) (hs : List (BitVec 32)), g = b.size ∧ l = .string b ∧ Mem w W hs ∧ Rest2 (runs K H0 (s.data.toList ++ padding s.data.toList.length)) b hs)
          case atStart => exact ⟨q, hs, rfl, rfl, hmH.out, hr2.out⟩
          case round =>
            clear hr2 hmH
            obtain ⟨b, hs, rfl, rfl, hm, hr⟩ := hrel
            by_cases hb : 0 < b.size
            · have hb64 : 64 ≤ b.size := by have := hr.1; omega
              have hgo : ((64 : Int) ≤ (b.size : Int)) := by omega
              have hgo0 : ((0 : Int) < (b.size : Int)) := by omega
              have hN := Lib.hid (fun w' h1 h2 => mem_next (w' := w') hm (compress_length K hs (words (b.extract 0 64).data.toList)) h1 h2)
              have hC := Lib.hid (block_list w.heap.size hs hm.1 (b.extract 0 64) (ext_lo b hb64) wr hm.2.1)
              have hR := Lib.hid (rest2_next hr hb64)
              have hsz := Lib.hid (ext_hi b)
              clear hm hr
              go_wp2_with (go_at_call 111; refine (hC.out).mono ?_; rintro e w' ⟨rfl, h1, h2⟩; have hm := Lib.hid (hN.out _ h1 h2); clear h1 h2)
              go_roundg (b.size - 64)
              case measure => omega
              case rel => exact ⟨b.extract 64 b.size, _, hsz.out.symm, rfl, hm.out, hR.out⟩
            · have hgo0 : ¬ ((0 : Int) < (b.size : Int)) := by omega
              have hr : runs K H0 (s.data.toList ++ padding s.data.toList.length) = hs := rest2_end hr (by omega)
              have hrH := Lib.hid hr
              obtain ⟨y0, y1, y2, y3, y4, y5, y6, y7, rfl⟩ := eight hm.1
              obtain ⟨hc0, hc1, hc2, hc3, hc4, hc5, hc6, hc7⟩ := st_cells hm.2.1
              have hmH := Lib.hid hm.2.2
              clear hm hr
              have hix := fun (W : World) (j : Nat) (hj : j < 8) => idx8 W y0 y1 y2 y3 y4 y5 y6 y7 j hj
              have hout0 := Lib.hid (own_nil wr wr.heap.size)
              have hB := Lib.hid (hmH.out.size)
              obtain ⟨i8, hi8, hz8, hs8, hb8⟩ := info8
              go_wp2_with fail
              clear hc0 hc1 hc2 hc3 hc4 hc5 hc6 hc7
              obtain ⟨B, hBe⟩ : ∃ B, B = wr.heap.size := ⟨_, rfl⟩
              rw [← hBe] at hout0 hB
              have hBe := Lib.hid (Nat.le_of_eq hBe)
              obtain ⟨ys, hys⟩ : ∃ ys : List (BitVec 32), ys = [y0, y1, y2, y3, y4, y5, y6, y7] := ⟨_, rfl⟩
              rw [← hys] at hrH hix
              have hyl : ys.length = 8 := by rw [hys]; rfl
              have hyl := Lib.hid hyl
              clear hys
              go_loopg [8, 55] 8 (fun g v i W => ∃ j : Nat, g = 8 - j ∧ j ≤ 8 ∧ i = .int .i64 j ∧ W.ownsRow B 5 1 v (j * 4) (bc ((ys.take j).flatMap ofWord)) ∧ Tch (fun _ => False) w W ∧ B ≤ W.heap.size)
              case atStart => exact ⟨0, rfl, by omega, rfl, hout0.out, hmH.out, hBe.out⟩
              case round =>
                clear hout0 hmH hBe
                obtain ⟨j, hg, hj, rfl, ho, ht, hBs⟩ := hrel
                subst hg
                by_cases hjl : j < 8
                · have hj8 : (j : Int) < 8 := by omega
                  have hixj := fun W => hix W j hjl
                  have hnx := flat_next hyl.out hjl
                  have hj4 : j * 4 ≤ 32 := by omega
                  have ho := Lib.hid ho
                  have hnx := Lib.hid hnx
                  have ht := Lib.hid ht
                  have hBs := Lib.hid hBs
                  clear hix
                  generalize ys.getD j 0 = yj at *
                  have hfin := fun g cap w1 => sum_next (g := g) (cap := cap) (w1 := w1) (yj := yj) (B := B) (w := w) (wr := wr) ho.out hnx.out ht.out hBs.out hB.out
                  have hfin := Lib.hid hfin
                  clear hnx
                  go_wp2_with (at_builtin; refine wpList_append_lies _ (by rfl) _ _ _ (by rfl) B 5 i8 _ 1 1 Tryz.underlying69 hi8 hz8 hs8 hb8 rfl (by omega) u8 (j * 4) _ (by rfl) (ho.out.alloc _) ⟨wr.heap.size, 0, none⟩ 4 4 [.int .u8 (nv yj / 16777216 % 256), .int .u8 (nv yj / 65536 % 256), .int .u8 (nv yj / 256 % 256), .int .u8 (nv yj % 256)] (by rfl) (by rfl) (World.news_of_block (heap_alloc_at _ _)) (by simp [Value.oneCell']) (by omega) (by unfold maxLen; omega) (by omega) (by simp; have := hBs.out; omega) (wr.heap.size + 1) (by simp) ?_; intro g cap w1 hown1 hgrow hat hlt)
                  go_roundg (8 - (j + 1))
                  case measure => omega
                  case rel => exact ⟨j + 1, rfl, by omega, by go_num, hfin.out _ _ _ hown1 hgrow⟩
                · have hj8 : j = 8 := by omega
                  subst hj8
                  rw [List.take_of_length_le (by rw [hyl.out]; omega), show 8 * 4 = (ys.flatMap ofWord).length from (flat_len hyl.out).symm] at ho
                  have hcv := own_conv _ _ _ _ ho
                  have hres : sha K H0 s = ⟨(ys.flatMap ofWord).toArray⟩ := by rw [← hrH.out]; rfl
                  have hres := Lib.hid hres
                  have ht := Lib.hid ht
                  generalize (⟨(ys.flatMap ofWord).toArray⟩ : ByteArray) = out at hres hcv
                  clear ho hix
                  go_wp2_with fail
                  go_ret
                  exact ⟨by rw [hres.out]; rfl, ht.out⟩
end Go.Proofs.YtbiioaggilaebaaGreatDoor.Sha
set_option linter.unusedVariables false
set_option linter.unusedSimpArgs false
namespace Go.Proofs.YtbiioaggilaebaaGreatDoor.Tm
open Go Go.RowKit Go.Proofs.YtbiioaggilaebaaGreatDoor.B Go.Proofs.YtbiioaggilaebaaGreatDoor.Bld
theorem set3 {w : World} {g : Nat} {a b c x y z : Value} {t : TypeId} (h : w.heap[g]? = some (.cells #[a, b, c] t (0, 0))) :
    (((w.setCell ⟨g, 0, none⟩ x).setCell ⟨g, 1, none⟩ y).setCell ⟨g, 2, none⟩ z).heap[g]? = some (.cells #[x, y, z] t (0, 0)) := by
  have h1 := heap_set w g 0 x _ t _ h
  have h2 := heap_set _ g 1 y _ t _ h1
  have h3 := heap_set _ g 2 z _ t _ h2
  exact h3
def vtext (s : ByteArray) : Value := .agg #[.bool false, .string s, .slice none 0 0]
def vlist (a : Value) : Value := .agg #[.bool true, .string ⟨#[]⟩, a]
set_option maxRecDepth 100000 in
theorem text_c (s : ByteArray) (w : World) : Calls Tryz.prog 46 #[.string s] w fun ev w' => ev = .returned (vtext s) ∧ Below w.heap.size w w' := by
  go_enter Tryz.func46, Tryz.ntmps46
  go_wp2_with fail
  go_returns
  exact ⟨rfl, (Below.refl _ _).alloc (Nat.le_refl _) _⟩
set_option maxRecDepth 100000 in
theorem list_c (A : Option Addr) (n c : Nat) (w : World) : Calls Tryz.prog 41 #[.slice A n c] w fun ev w' => ev = .returned (vlist (.slice A n c)) ∧ Below w.heap.size w w' := by
  go_enter Tryz.func41, Tryz.ntmps41
  go_wp2_with fail
  go_returns
  exact ⟨rfl, (Below.refl _ _).alloc (Nat.le_refl _) _⟩
set_option maxRecDepth 100000 in
theorem rtext_c (s : ByteArray) (w : World) : Calls Tryz.prog 88 #[.string s] w fun ev w' => ev = .returned (vtext s) ∧ Below w.heap.size w w' := by
  go_enter Tryz.func88, Tryz.ntmps88
  go_wp2_with fail
  go_returns
  exact ⟨rfl, (Below.refl _ _).alloc (Nat.le_refl _) _⟩
set_option maxRecDepth 100000 in
theorem rlist_c (A : Option Addr) (n c : Nat) (w : World) : Calls Tryz.prog 87 #[.slice A n c] w fun ev w' => ev = .returned (vlist (.slice A n c)) ∧ Below w.heap.size w w' := by
  go_enter Tryz.func87, Tryz.ntmps87
  go_wp2_with fail
  go_returns
  exact ⟨rfl, (Below.refl _ _).alloc (Nat.le_refl _) _⟩
end Go.Proofs.YtbiioaggilaebaaGreatDoor.Tm
set_option linter.unusedVariables false
set_option linter.unusedSimpArgs false
namespace Go.Proofs.YtbiioaggilaebaaGreatDoor.Tm
open Go Go.RowKit Go.Proofs.YtbiioaggilaebaaGreatDoor.B Go.Proofs.YtbiioaggilaebaaGreatDoor.Bld
mutual
def wp : F → List UInt8 → List UInt8
  | .mk true x l, t => if 65536 < t.length then wps l t else wps l (t ++ [40]) ++ [41]
  | .mk false x l, t => if 65536 < t.length then t else t ++ (Lib.decDigits x.length ++ 58 :: x)
def wps : List F → List UInt8 → List UInt8
  | [], t => t
  | f :: l, t => wps l (wp f t)
end
mutual
theorem wp_len : ∀ (f : F) (t : List UInt8), t.length ≤ (wp f t).length ∧ (wp f t).length ≤ t.length + f.bytes.length
  | .mk true x l, t => by
    unfold wp F.bytes
    have h1 := wps_len l t
    have h2 := wps_len l (t ++ [40])
    simp only [List.length_append, List.length_cons, List.length_nil] at h2 ⊢
    split
    · omega
    · simp only [List.length_append, List.length_cons, List.length_nil]
      omega
  | .mk false x l, t => by
    unfold wp F.bytes
    split <;> simp only [List.length_append] <;> omega
theorem wps_len : ∀ (l : List F) (t : List UInt8), t.length ≤ (wps l t).length ∧ (wps l t).length ≤ t.length + (bytess l).length
  | [], t => by unfold wps; simp
  | f :: l, t => by
    unfold wps bytess
    have h1 := wp_len f t
    have h2 := wps_len l (wp f t)
    rw [List.length_append]
    omega
end
mutual
theorem wp_fits : ∀ (f : F) (t : List UInt8), t.length + f.bytes.length ≤ 65536 → wp f t = t ++ f.bytes
  | .mk true x l, t, h => by
    unfold F.bytes at h ⊢
    unfold wp
    simp only [List.length_append, List.length_cons, List.length_nil] at h
    rw [if_neg (by omega), wps_fits l (t ++ [40]) (by simp only [List.length_append, List.length_cons, List.length_nil]; omega)]
    simp
  | .mk false x l, t, h => by
    unfold F.bytes at h ⊢
    unfold wp
    rw [if_neg (by omega)]
theorem wps_fits : ∀ (l : List F) (t : List UInt8), t.length + (bytess l).length ≤ 65536 → wps l t = t ++ bytess l
  | [], t, h => by unfold wps bytess; simp
  | f :: l, t, h => by
    unfold bytess at h ⊢
    rw [List.length_append] at h
    unfold wps
    rw [wp_fits f t (by omega), wps_fits l _ (by rw [List.length_append]; omega), List.append_assoc]
end
mutual
theorem wp_over : ∀ (f : F) (t : List UInt8), 65536 < t.length + f.bytes.length → 65536 < (wp f t).length
  | .mk true x l, t, h => by
    unfold F.bytes at h
    unfold wp
    simp only [List.length_append, List.length_cons, List.length_nil] at h
    split
    · have := (wps_len l t).1
      omega
    · simp only [List.length_append, List.length_cons, List.length_nil]
      by_cases h2 : 65536 < (t ++ [40]).length + (bytess l).length
      · have := wps_over l (t ++ [40]) h2
        omega
      · rw [wps_fits l _ (by omega)]
        simp only [List.length_append, List.length_cons, List.length_nil] at h2 ⊢
        omega
  | .mk false x l, t, h => by
    unfold F.bytes at h
    unfold wp
    split
    · assumption
    · rw [List.length_append]; exact h
theorem wps_over : ∀ (l : List F) (t : List UInt8), 65536 < t.length + (bytess l).length → 65536 < (wps l t).length
  | [], t, h => by unfold bytess at h; unfold wps; simpa using h
  | f :: l, t, h => by
    unfold bytess at h
    rw [List.length_append] at h
    unfold wps
    by_cases h2 : 65536 < t.length + f.bytes.length
    · have h3 := wp_over f t h2
      have := (wps_len l (wp f t)).1
      omega
    · refine wps_over l _ ?_
      rw [wp_fits f t (by omega), List.length_append]
      omega
end
theorem wps_append : ∀ (a b : List F) (t : List UInt8), wps (a ++ b) t = wps b (wps a t)
  | [], b, t => by rw [List.nil_append]; conv => rhs; rw [wps]
  | f :: a, b, t => by rw [List.cons_append, wps, wps, wps_append a b]
theorem wps_take (l : List F) (k : Nat) (t : List UInt8) (h : k < l.length) : wps (l.take (k + 1)) t = wp (l[k]) (wps (l.take k) t) := by
  rw [List.take_add_one, List.getElem?_eq_getElem h, Option.toList_some, wps_append, wps, wps]
set_option maxRecDepth 100000 in
set_option maxHeartbeats 2000000 in
theorem put_textS (B g : Nat) (t : List UInt8) (e d : Value) (s : ByteArray) (deep : Nat) (A : Option Addr) (c : Nat) (w : World) (h : WAt B g t e d w) (htab : Tab w) (hdeep : deep ≤ 8)
    (ht6 : t.length ≤ 65536) (hlen : t.length + (txt s.data.toList).bytes.length ≤ 140000000000000) (hBw : B ≤ w.heap.size) :
    Calls Tryz.prog 78 #[.pointer (some ⟨g, 0, none⟩), .agg #[.bool false, .string s, .slice A 0 c], .int .i64 deep] w
      fun ev w' => ev = .returned (.tuple #[]) ∧ WAt B g (t ++ (txt s.data.toList).bytes) e d w' ∧ Below B w w' ∧ Oth g w w' := by
  have hsl : s.data.toList.length = s.size := by rw [Array.length_toList]; rfl
  have hbl : (txt s.data.toList).bytes.length = (Lib.decDigits s.size).length + 1 + s.size := by
    unfold txt F.bytes
    simp [hsl]; omega
  have hbe : (txt s.data.toList).bytes = (⟨(Lib.decDigits s.size).toArray⟩ ++ ⟨#[58]⟩ ++ s : ByteArray).data.toList := by
    unfold txt F.bytes
    rw [hsl]
    simp [ByteArray.data_append]
  have hdi : ¬ (8 : Int) < (deep : Int) := by omega
  have hti : decide ((65536 : Int) < (t.length : Int)) = false := by simp; omega
  have hNs : (⟨(Lib.decDigits s.size).toArray⟩ : ByteArray).size = (Lib.decDigits s.size).length := by show (Lib.decDigits s.size).toArray.size = _; simp
  obtain ⟨w0, hw0⟩ : ∃ w0, w0 = w.alloc (.cells #[.bool false, .string s, .slice A 0 c] 74) := ⟨_, rfl⟩
  have hbel : Below B w w0 := by rw [hw0]; exact (Below.refl _ _).alloc hBw _
  have hsz : w.heap.size < w0.heap.size := by rw [hw0]; simp
  have hb0 : w0.heap[w.heap.size]? = some (.cells #[.bool false, .string s, .slice A 0 c] 74 (0, 0)) := by rw [hw0]; exact heap_alloc_at _ _
  have CL := Lib.hid (len_any B g t e d w0 (by rw [hw0]; exact wat_alloc h _))
  have CI := Lib.hid (itoa_any s.size (by omega) w0.drew (by show Tab w0; rw [hw0]; exact htab.below ((Below.refl _ _).alloc (Nat.le_refl _) _) (Nat.le_refl _)))
  have hwa : WAt B g t e d w0 := by rw [hw0]; exact wat_alloc h _
  rw [hbl] at hlen
  have hN21 : (Lib.decDigits s.size).length ≤ 21 := by
    have := Lib.itoa_length_le (s.size : Int) (by omega) (by omega)
    rwa [Lib.itoa_nonneg] at this
  have CS := Lib.hid (fun (N : ByteArray) W (hN : N.size ≤ 65536) (hW : Below w0.drew.heap.size w0.drew W) => string_any B g t e d (N ++ ⟨#[58]⟩ ++ s) W (wat_tch (wat_drew hwa) hW) (by rw [ByteArray.size_append, ByteArray.size_append]; show t.length + (N.size + 1 + s.size) ≤ _; omega) (by have := hW.size; have : w0.drew.heap.size = w0.heap.size := rfl; omega))
  rw [hbe]
  generalize (⟨(Lib.decDigits s.size).toArray⟩ : ByteArray) = N at *
  have hcat1 : (9223372036854775807 < N.size + 1) = False := eq_false (by omega)
  have hcat2 : (9223372036854775807 < N.size + 1 + s.size) = False := eq_false (by omega)
  have hNb := Lib.hid (show N.size ≤ 65536 by omega)
  have hbelH := Lib.hid hbel
  have hothH := Lib.hid (show Oth g w w0 by rw [hw0]; exact Oth.alloc _ _ _)
  have hneH := Lib.hid (show w.heap.size ≠ g by obtain ⟨_, p, v, _, hg, _⟩ := h; have := heap_lt hg; omega)
  have hb0H := Lib.hid hb0
  have hszH := Lib.hid hsz
  have hBwH := Lib.hid hBw
  have hc0 : w0.cell? ⟨w.heap.size, 0, none⟩ = some (.bool false) := by rw [cell_of hb0]; rfl
  have hc1 : w0.cell? ⟨w.heap.size, 1, none⟩ = some (.string s) := by rw [cell_of hb0]; rfl
  have hc2 : w0.cell? ⟨w.heap.size, 2, none⟩ = some (.slice A 0 c) := by rw [cell_of hb0]; rfl
  clear hbe hbl hNs hN21 hsl hlen ht6 hwa hb0 hbel hsz hBw h htab
  go_enter Tryz.func78, Tryz.ntmps78
  go_wp2_with fail
  rw [← hw0]
  replace hw0 := Lib.hid hw0
  refine (CL.out).mono ?_
  rintro ev w1 ⟨rfl, rfl⟩
  go_wp2_with fail
  go_region_held3 (fun W => W.cell? ⟨w.heap.size, 1, none⟩ = some (.string s)) (first | go_keep | (exact (cell_of hbx.out 1).trans rfl) | (exact (box_keep hbx.out hoth3.out hneH.out (by decide) 1).trans rfl))
    ((first
      | (go_at_call 77; refine (CI.out).mono ?_; rintro ev w2 ⟨rfl, hb1⟩; have hb1H := Lib.hid hb1; have hbx := Lib.hid ((hb1.block _ hszH.out).trans hb0H.out))
      | (go_at_call 122; refine (CS.out N _ hNb.out (by exact hb1)).mono ?_; rintro ev w3 ⟨rfl, hwat, hb3, hoth3⟩; replace hoth3 := Lib.hid hoth3; replace hwat := Lib.hid hwat; replace hb3 := Lib.hid hb3)))
  all_goals (try go_wp2_with fail)
  go_end0
  refine ⟨rfl, hwat.out, (hbelH.out.trans ?_).trans hb3.out, (hothH.out.trans ?_).trans hoth3.out⟩
  · have h := hb1H.out
    exact (Below.drew (Below.refl B w1)).trans (Below.mono (B' := B) (w := w1.drew) h (Nat.le_of_lt (Nat.lt_of_le_of_lt hBwH.out hszH.out)))
  · exact Oth.below (w := w1.drew) hb1H.out
set_option maxRecDepth 100000 in
set_option maxHeartbeats 2000000 in
theorem put_textB (B g : Nat) (t : List UInt8) (e d : Value) (s : ByteArray) (deep : Nat) (A : Option Addr) (c : Nat) (w : World) (h : WAt B g t e d w) (hdeep : deep ≤ 8) (ht6 : 65536 < t.length) (ht7 : t.length ≤ 140000000000000) (hBw : B ≤ w.heap.size) :
    Calls Tryz.prog 78 #[.pointer (some ⟨g, 0, none⟩), .agg #[.bool false, .string s, .slice A 0 c], .int .i64 deep] w (PutPost B g t e d w) := by
  have hdi : ¬ (8 : Int) < (deep : Int) := by omega
  have hti : decide ((65536 : Int) < (t.length : Int)) = true := by simp; omega
  obtain ⟨w0, hw0⟩ : ∃ w0, w0 = w.alloc (.cells #[.bool false, .string s, .slice A 0 c] 74) := ⟨_, rfl⟩
  have hbel := Lib.hid (show Below B w w0 by rw [hw0]; exact (Below.refl _ _).alloc hBw _)
  have hoth := Lib.hid (show Oth g w w0 by rw [hw0]; exact Oth.alloc _ _ _)
  have hwa := Lib.hid (show WAt B g t e d w0 by rw [hw0]; exact wat_alloc h _)
  have CL := Lib.hid (len_any B g t e d w0 hwa.out)
  have hb0 : w0.heap[w.heap.size]? = some (.cells #[.bool false, .string s, .slice A 0 c] 74 (0, 0)) := by rw [hw0]; exact heap_alloc_at _ _
  have hc0 : w0.cell? ⟨w.heap.size, 0, none⟩ = some (.bool false) := by rw [cell_of hb0]; rfl
  have hc1 : w0.cell? ⟨w.heap.size, 1, none⟩ = some (.string s) := by rw [cell_of hb0]; rfl
  have hc2 : w0.cell? ⟨w.heap.size, 2, none⟩ = some (.slice A 0 c) := by rw [cell_of hb0]; rfl
  clear hb0 h ht6 ht7
  go_enter Tryz.func78, Tryz.ntmps78
  go_wp2_with fail
  rw [← hw0]
  replace hw0 := Lib.hid hw0
  refine (CL.out).mono ?_
  rintro ev w1 ⟨rfl, rfl⟩
  go_wp2_with fail
  go_end0
  exact ⟨rfl, hwa.out, hbel.out, hoth.out⟩
def PutsG (B g : Nat) (e d : Value) (f : F) : Prop := ∀ (t : List UInt8) (deep : Nat) (c0 c1 c2 : Value) (w : World), FV B w f [c0, c1, c2] → WAt B g t e d w → Tab w → B ≤ w.heap.size → 2 < B → f.depth + deep ≤ 8 → t.length + f.bytes.length ≤ 140000000000000 →
  Calls Tryz.prog 78 #[.pointer (some ⟨g, 0, none⟩), .agg #[c0, c1, c2], .int .i64 deep] w (PutPost B g (wp f t) e d w)
set_option maxRecDepth 100000 in
set_option maxHeartbeats 4000000 in
theorem put_listS (B g : Nat) (e d : Value) (l : List F) (ih : ∀ (k : Nat) (h : k < l.length), PutsG B g e d l[k]) (t : List UInt8) (deep : Nat) (A : Option Addr) (c : Nat) (w : World) (hl : l.length ≤ 140737488355328) (hfs : FVs B w A 0 l) (h : WAt B g t e d w) (htab : Tab w)
    (hBw : B ≤ w.heap.size) (hgB : 2 < B) (hdeep : depths l + 1 + deep ≤ 8) (ht6 : t.length ≤ 65536) (hlen : t.length + ((bytess l).length + 2) ≤ 140000000000000) :
    Calls Tryz.prog 78 #[.pointer (some ⟨g, 0, none⟩), .agg #[.bool true, .string ⟨#[]⟩, .slice A l.length c], .int .i64 deep] w (PutPost B g (wps l (t ++ [40]) ++ [41]) e d w) := by
  have hdi : ¬ (8 : Int) < (deep : Int) := by omega
  have hdi1 : ¬ (8 : Int) < (deep : Int) + 1 := by omega
  have hd8 : (deep : Int) ≤ 8 := by omega
  have hti : decide ((65536 : Int) < (t.length : Int)) = false := by simp; omega
  obtain ⟨w0, hw0⟩ : ∃ w0, w0 = w.alloc (.cells #[.bool true, .string ⟨#[]⟩, .slice A l.length c] 74) := ⟨_, rfl⟩
  have hbel := Lib.hid (show Below B w w0 by rw [hw0]; exact (Below.refl _ _).alloc hBw _)
  have hoth := Lib.hid (show Oth g w w0 by rw [hw0]; exact Oth.alloc _ _ _)
  have hwa : WAt B g t e d w0 := by rw [hw0]; exact wat_alloc h _
  have hsz : B ≤ w0.heap.size := by rw [hw0]; simp; omega
  have CL := Lib.hid (len_any B g t e d w0 hwa)
  have C40 : Calls Tryz.prog 123 #[.pointer (some ⟨g, 0, none⟩), .int .u8 40] w0 fun ev w' => ev = .returned .nilIface ∧ WAt B g (t ++ [40]) e d w' ∧ Below B w0 w' ∧ Oth g w0 w' := byte_any B g t e d 40 w0 hwa (by omega) hsz
  have C40H := Lib.hid C40
  have hb0 : w0.heap[w.heap.size]? = some (.cells #[.bool true, .string ⟨#[]⟩, .slice A l.length c] 74 (0, 0)) := by rw [hw0]; exact heap_alloc_at _ _
  have hb0H := Lib.hid hb0
  have hneH := Lib.hid (show w.heap.size ≠ g by obtain ⟨_, p, v, _, hg, _⟩ := h; have := heap_lt hg; omega)
  have htabH := Lib.hid htab
  have hfsH := Lib.hid hfs
  have hc0 : w0.cell? ⟨w.heap.size, 0, none⟩ = some (.bool true) := by rw [cell_of hb0]; rfl
  have hc1 : w0.cell? ⟨w.heap.size, 1, none⟩ = some (.string ⟨#[]⟩) := by rw [cell_of hb0]; rfl
  have hc2 : w0.cell? ⟨w.heap.size, 2, none⟩ = some (.slice A l.length c) := by rw [cell_of hb0]; rfl
  clear hwa hb0 h htab hfs C40
  go_enter Tryz.func78, Tryz.ntmps78
  go_wp2_with fail
  rw [← hw0]
  replace hw0 := Lib.hid hw0
  refine (CL.out).mono ?_
  rintro ev w1 ⟨rfl, rfl⟩
  go_wp2_with fail
  refine (C40H.out).mono ?_
  rintro ev w2 ⟨rfl, hw2, hb2, ho2⟩
  have hbx := Lib.hid (ho2 _ _ _ _ hneH.out (by decide) hb0H.out)
  have hx2 : w2.cell? ⟨w.heap.size, 2, none⟩ = some (.slice A l.length c) := by rw [cell_of hbx.out]; rfl
  replace hbel := Lib.hid (hbel.out.trans hb2)
  replace hoth := Lib.hid (hoth.out.trans ho2)
  replace hw2 := Lib.hid hw2
  clear hb2 ho2 CL C40H
  go_wp2_with fail
  obtain ⟨n, hn⟩ : ∃ n, n = l.length := ⟨_, rfl⟩
  rw [← hn] at hl hx2 ⊢
  replace hn := Lib.hid hn
  go_loopg [80] n (fun g' i W => ∃ k : Nat, g' = n - k ∧ k ≤ n ∧ i = .int .i64 k ∧ WAt B g (wps (l.take k) (t ++ [40])) e d W ∧ Below B w W ∧ Oth g w W)
  case atStart => exact ⟨0, rfl, by omega, rfl, by simpa [wps] using hw2.out, hbel.out, hoth.out⟩
  case round =>
    clear hw2 hbel hoth hx2 hbx
    obtain ⟨k, hg', hk, rfl, hwk, hbk, hok⟩ := hrel
    subst hg'
    by_cases hkn : k < n
    · have hki : (k : Int) < (n : Int) := by omega
      have hfk := FVs.get (FVs.below hbk l A 0 hfsH.out) k (by rw [← hn.out]; exact hkn)
      rw [Nat.zero_add] at hfk
      obtain ⟨b, o, c0, c1, c2, hA, hbB, h0, h1, h2, hf⟩ := hfk
      subst hA
      have ihk := ih k (by rw [← hn.out]; exact hkn)
      obtain ⟨F', hF'⟩ : ∃ F', F' = l[k]'(by rw [← hn.out]; exact hkn) := ⟨_, rfl⟩
      rw [← hF'] at hf ihk
      have hfr : F'.right = true → True := fun _ => trivial
      replace hF' := Lib.hid hF'
      obtain ⟨fb, ft, fl⟩ := F'
      have hf2 := hf
      unfold FV at hf2
      obtain ⟨A2, cc, hcs, _⟩ := hf2
      simp only [List.cons.injEq, and_true] at hcs
      obtain ⟨rfl, rfl, rfl⟩ := hcs
      generalize hfn : fl.length = fn at *
      replace hfn := Lib.hid hfn
      have hwkH := Lib.hid hwk
      have ihH := Lib.hid ihk
      have hbkH := Lib.hid hbk
      have hokH := Lib.hid hok
      have hfH := Lib.hid hf
      clear hwk hbk hok hf ihk hfr
      have hdk : (F.mk fb ft fl).depth + (deep + 1) ≤ 8 := by
        have := depths_get (l := l) k (by rw [← hn.out]; exact hkn)
        rw [← hF'.out] at this
        omega
      have hbt := wps_take l k (t ++ [40]) (by rw [← hn.out]; exact hkn)
      rw [← hF'.out] at hbt
      have hlk : (wps (l.take k) (t ++ [40])).length + (F.mk fb ft fl).bytes.length ≤ 140000000000000 := by
        have h0 := (wps_len (l.take k) (t ++ [40])).2
        have h2 := bytess_take l k (by rw [← hn.out]; exact hkn)
        rw [← hF'.out] at h2
        have h1 := bytess_le l (k + 1)
        rw [h2, List.length_append] at h1
        rw [List.length_append, List.length_singleton] at h0
        omega
      have CP := ihH.out (wps (l.take k) (t ++ [40])) (deep + 1) (.bool fb) (.string ⟨ft.toArray⟩) (.slice A2 fn cc) (wr.alloc (.cells #[.bool fb, .string ⟨ft.toArray⟩, .slice A2 fn cc] 74))
        (FV.below ((Below.refl B wr).alloc (Nat.le_trans hBw hbkH.out.size) _) _ _ hfH.out) (wat_alloc hwkH.out _) (htabH.out.keep (hbkH.out.alloc (Nat.le_trans hBw hbkH.out.size) _) hgB) (by have := hbkH.out.size; simp; omega) hgB hdk hlk
      rw [show ((deep + 1 : Nat) : Int) = (deep : Int) + 1 from by omega] at CP
      replace CP := Lib.hid CP
      replace hbt := Lib.hid hbt
      clear hdk hlk
      go_wp2_with fail
      refine (CP.out).mono ?_
      rintro ev w3 ⟨rfl, hw3, hb3, ho3⟩
      replace hw3 := Lib.hid hw3
      replace hb3 := Lib.hid hb3
      replace ho3 := Lib.hid ho3
      go_wp2_with fail
      go_roundg (n - (k + 1))
      case measure => omega
      case rel => exact ⟨k + 1, rfl, by omega, by go_num, by rw [hbt.out]; exact hw3.out, (hbkH.out.alloc (Nat.le_trans hBw hbkH.out.size) _).trans hb3.out, (hokH.out.trans (Oth.alloc _ _ _)).trans ho3.out⟩
    · have hkn' : k = n := by omega
      subst hkn'
      have hki : ¬ (k : Int) < (k : Int) := by omega
      rw [List.take_of_length_le (by rw [← hn.out]; exact Nat.le_refl _)] at hwk
      have C41 : Calls Tryz.prog 123 #[.pointer (some ⟨g, 0, none⟩), .int .u8 41] wr fun ev w' => ev = .returned .nilIface ∧ WAt B g (wps l (t ++ [40]) ++ [41]) e d w' ∧ Below B wr w' ∧ Oth g wr w' := byte_any B g _ e d 41 wr hwk (by have := (wps_len l (t ++ [40])).2; rw [List.length_append, List.length_singleton] at this; omega) (Nat.le_trans hBw hbk.size)
      replace C41 := Lib.hid C41
      have hbkH := Lib.hid hbk
      have hokH := Lib.hid hok
      clear hwk hbk hok
      go_wp2_with fail
      refine (C41.out).mono ?_
      rintro ev w3 ⟨rfl, hw3, hb3, ho3⟩
      replace hw3 := Lib.hid hw3
      replace hb3 := Lib.hid hb3
      replace ho3 := Lib.hid ho3
      go_wp2_with fail
      go_end0
      exact ⟨rfl, hw3.out, hbkH.out.trans hb3.out, hokH.out.trans ho3.out⟩
set_option maxRecDepth 100000 in
set_option maxHeartbeats 4000000 in
theorem put_listB (B g : Nat) (e d : Value) (l : List F) (ih : ∀ (k : Nat) (h : k < l.length), PutsG B g e d l[k]) (t : List UInt8) (deep : Nat) (A : Option Addr) (c : Nat) (w : World) (hl : l.length ≤ 140737488355328) (hfs : FVs B w A 0 l) (h : WAt B g t e d w) (htab : Tab w)
    (hBw : B ≤ w.heap.size) (hgB : 2 < B) (hdeep : depths l + 1 + deep ≤ 8) (ht6 : 65536 < t.length) (hlen : t.length + ((bytess l).length + 2) ≤ 140000000000000) :
    Calls Tryz.prog 78 #[.pointer (some ⟨g, 0, none⟩), .agg #[.bool true, .string ⟨#[]⟩, .slice A l.length c], .int .i64 deep] w (PutPost B g (wps l t) e d w) := by
  have hdi : ¬ (8 : Int) < (deep : Int) := by omega
  have hdi1 : ¬ (8 : Int) < (deep : Int) + 1 := by omega
  have hd8 : (deep : Int) ≤ 8 := by omega
  have hti : decide ((65536 : Int) < (t.length : Int)) = true := by simp; omega
  obtain ⟨w0, hw0⟩ : ∃ w0, w0 = w.alloc (.cells #[.bool true, .string ⟨#[]⟩, .slice A l.length c] 74) := ⟨_, rfl⟩
  have hbel := Lib.hid (show Below B w w0 by rw [hw0]; exact (Below.refl _ _).alloc hBw _)
  have hoth := Lib.hid (show Oth g w w0 by rw [hw0]; exact Oth.alloc _ _ _)
  have hwa : WAt B g t e d w0 := by rw [hw0]; exact wat_alloc h _
  have hsz : B ≤ w0.heap.size := by rw [hw0]; simp; omega
  have CL := Lib.hid (len_any B g t e d w0 hwa)
  have hwaH := Lib.hid hwa
  have hb0 : w0.heap[w.heap.size]? = some (.cells #[.bool true, .string ⟨#[]⟩, .slice A l.length c] 74 (0, 0)) := by rw [hw0]; exact heap_alloc_at _ _
  have hb0H := Lib.hid hb0
  have hneH := Lib.hid (show w.heap.size ≠ g by obtain ⟨_, p, v, _, hg, _⟩ := h; have := heap_lt hg; omega)
  have htabH := Lib.hid htab
  have hfsH := Lib.hid hfs
  have hc0 : w0.cell? ⟨w.heap.size, 0, none⟩ = some (.bool true) := by rw [cell_of hb0]; rfl
  have hc1 : w0.cell? ⟨w.heap.size, 1, none⟩ = some (.string ⟨#[]⟩) := by rw [cell_of hb0]; rfl
  have hc2 : w0.cell? ⟨w.heap.size, 2, none⟩ = some (.slice A l.length c) := by rw [cell_of hb0]; rfl
  clear hwa hb0 h htab hfs
  go_enter Tryz.func78, Tryz.ntmps78
  go_wp2_with fail
  rw [← hw0]
  replace hw0 := Lib.hid hw0
  refine (CL.out).mono ?_
  rintro ev w1 ⟨rfl, rfl⟩
  have hx2 : w1.cell? ⟨w.heap.size, 2, none⟩ = some (.slice A l.length c) := by rw [cell_of hb0H.out]; rfl
  go_wp2_with fail
  obtain ⟨n, hn⟩ : ∃ n, n = l.length := ⟨_, rfl⟩
  rw [← hn] at hl hx2 ⊢
  replace hn := Lib.hid hn
  go_loopg [80] n (fun g' i W => ∃ k : Nat, g' = n - k ∧ k ≤ n ∧ i = .int .i64 k ∧ WAt B g (wps (l.take k) t) e d W ∧ Below B w W ∧ Oth g w W)
  case atStart => exact ⟨0, rfl, by omega, rfl, by simpa [wps] using hwaH.out, hbel.out, hoth.out⟩
  case round =>
    clear hbel hoth hx2
    obtain ⟨k, hg', hk, rfl, hwk, hbk, hok⟩ := hrel
    subst hg'
    by_cases hkn : k < n
    · have hki : (k : Int) < (n : Int) := by omega
      have hfk := FVs.get (FVs.below hbk l A 0 hfsH.out) k (by rw [← hn.out]; exact hkn)
      rw [Nat.zero_add] at hfk
      obtain ⟨b, o, c0, c1, c2, hA, hbB, h0, h1, h2, hf⟩ := hfk
      subst hA
      have ihk := ih k (by rw [← hn.out]; exact hkn)
      obtain ⟨F', hF'⟩ : ∃ F', F' = l[k]'(by rw [← hn.out]; exact hkn) := ⟨_, rfl⟩
      rw [← hF'] at hf ihk
      have hfr : F'.right = true → True := fun _ => trivial
      replace hF' := Lib.hid hF'
      obtain ⟨fb, ft, fl⟩ := F'
      have hf2 := hf
      unfold FV at hf2
      obtain ⟨A2, cc, hcs, _⟩ := hf2
      simp only [List.cons.injEq, and_true] at hcs
      obtain ⟨rfl, rfl, rfl⟩ := hcs
      generalize hfn : fl.length = fn at *
      replace hfn := Lib.hid hfn
      have hwkH := Lib.hid hwk
      have ihH := Lib.hid ihk
      have hbkH := Lib.hid hbk
      have hokH := Lib.hid hok
      have hfH := Lib.hid hf
      clear hwk hbk hok hf ihk hfr
      have hdk : (F.mk fb ft fl).depth + (deep + 1) ≤ 8 := by
        have := depths_get (l := l) k (by rw [← hn.out]; exact hkn)
        rw [← hF'.out] at this
        omega
      have hbt := wps_take l k t (by rw [← hn.out]; exact hkn)
      rw [← hF'.out] at hbt
      have hlk : (wps (l.take k) t).length + (F.mk fb ft fl).bytes.length ≤ 140000000000000 := by
        have h0 := (wps_len (l.take k) t).2
        have h2 := bytess_take l k (by rw [← hn.out]; exact hkn)
        rw [← hF'.out] at h2
        have h1 := bytess_le l (k + 1)
        rw [h2, List.length_append] at h1
        omega
      have CP := ihH.out (wps (l.take k) t) (deep + 1) (.bool fb) (.string ⟨ft.toArray⟩) (.slice A2 fn cc) (wr.alloc (.cells #[.bool fb, .string ⟨ft.toArray⟩, .slice A2 fn cc] 74))
        (FV.below ((Below.refl B wr).alloc (Nat.le_trans hBw hbkH.out.size) _) _ _ hfH.out) (wat_alloc hwkH.out _) (htabH.out.keep (hbkH.out.alloc (Nat.le_trans hBw hbkH.out.size) _) hgB) (by have := hbkH.out.size; simp; omega) hgB hdk hlk
      rw [show ((deep + 1 : Nat) : Int) = (deep : Int) + 1 from by omega] at CP
      replace CP := Lib.hid CP
      replace hbt := Lib.hid hbt
      clear hdk hlk
      go_wp2_with fail
      refine (CP.out).mono ?_
      rintro ev w3 ⟨rfl, hw3, hb3, ho3⟩
      replace hw3 := Lib.hid hw3
      replace hb3 := Lib.hid hb3
      replace ho3 := Lib.hid ho3
      go_wp2_with fail
      go_roundg (n - (k + 1))
      case measure => omega
      case rel => exact ⟨k + 1, rfl, by omega, by go_num, by rw [hbt.out]; exact hw3.out, (hbkH.out.alloc (Nat.le_trans hBw hbkH.out.size) _).trans hb3.out, (hokH.out.trans (Oth.alloc _ _ _)).trans ho3.out⟩
    · have hkn' : k = n := by omega
      subst hkn'
      have hki : ¬ (k : Int) < (k : Int) := by omega
      rw [List.take_of_length_le (by rw [← hn.out]; exact Nat.le_refl _)] at hwk
      have hwkH := Lib.hid hwk
      have hbkH := Lib.hid hbk
      have hokH := Lib.hid hok
      clear hwk hbk hok
      go_wp2_with fail
      go_end0
      exact ⟨rfl, hwkH.out, hbkH.out, hokH.out⟩
theorem put_anyG (B g : Nat) (e d : Value) : ∀ (n : Nat) (f : F), SizeOf.sizeOf f < n → f.right = true → PutsG B g e d f := by
  intro n
  induction n with
  | zero => intro f h; exact absurd h (by omega)
  | succ n ih =>
    rintro ⟨b, x, l⟩ hsz hr t deep c0 c1 c2 w hf h htab hBw hgB hdeep hlen
    unfold FV at hf
    obtain ⟨A, c, hcs, hc, hll, hfs⟩ := hf
    simp only [List.cons.injEq, and_true] at hcs
    obtain ⟨rfl, rfl, rfl⟩ := hcs
    cases b with
    | true =>
      unfold F.right at hr
      simp only [Bool.and_eq_true] at hr
      have hx : x = [] := by simpa using hr.1
      subst hx
      unfold F.bytes F.depth at *
      have hb : (40 :: (bytess l ++ [41])).length = (bytess l).length + 2 := by simp
      rw [hb] at hlen
      have hih : ∀ (k : Nat) (h : k < l.length), PutsG B g e d l[k] := fun k hk => ih _ (by
        have := get_size k hk
        have h2 : SizeOf.sizeOf (F.mk true [] l) = 1 + SizeOf.sizeOf true + SizeOf.sizeOf ([] : List UInt8) + SizeOf.sizeOf l := by rw [F.mk.sizeOf_spec]
        omega) (rights_get hr.2 k hk)
      unfold wp
      split
      · next h6 => exact put_listB B g e d l hih t deep A c w hll hfs h htab hBw hgB hdeep h6 hlen
      · next h6 => exact put_listS B g e d l hih t deep A c w hll hfs h htab hBw hgB hdeep (by omega) hlen
    | false =>
      unfold F.right at hr
      have hl0 : l = [] := by simpa using hr
      subst hl0
      have eF : (txt (⟨x.toArray⟩ : ByteArray).data.toList) = .mk false x [] := rfl
      unfold wp
      split
      · next h6 => exact put_textB B g t e d ⟨x.toArray⟩ deep A c w h (by omega) h6 (by omega) hBw
      · next h6 =>
        have := put_textS B g t e d ⟨x.toArray⟩ deep A c w h htab (by omega) (by omega) (by rw [eF]; exact hlen) hBw
        rw [eF] at this
        unfold F.bytes at this
        exact this
end Go.Proofs.YtbiioaggilaebaaGreatDoor.Tm
set_option linter.unusedVariables false
namespace Go.Proofs.YtbiioaggilaebaaGreatDoor.Ref
def pstep (l : List Nat) (k : Nat) : List Nat := if l.any (fun d => k % d == 0) then l else l ++ [k]
def pst : Nat → List Nat
  | 0 => []
  | t + 1 => pstep (pst t) (t + 2)
theorem pst_small : ∀ t, ∀ d ∈ pst t, 2 ≤ d ∧ d < t + 2
  | 0, d, h => absurd h (by simp [pst])
  | t + 1, d, h => by
    rw [pst, pstep] at h
    split at h
    · have := pst_small t d h; omega
    · rcases List.mem_append.1 h with h | h
      · have := pst_small t d h; omega
      · rw [List.mem_singleton] at h; omega
theorem pst_mono : ∀ t u, t ≤ u → (pst t).length ≤ (pst u).length
  | t, 0, h => by obtain rfl : t = 0 := by omega
                  exact Nat.le_refl _
  | t, u + 1, h => by
    by_cases e : t = u + 1
    · subst e; exact Nat.le_refl _
    · have := pst_mono t u (by omega)
      rw [pst, pstep]
      split
      · exact this
      · simp; omega
theorem pst8 : (pst 17).length < 8 ∧ (pst 18).length = 8 := by decide +kernel
theorem pst64 : (pst 309).length < 64 ∧ (pst 310).length = 64 := by decide +kernel
def tab (n t q : Nat) : List (BitVec 32) := (pst t).map fun p => BitVec.ofNat 32 (rootN p q)
theorem tabH : tab 8 18 2 = Sha.H0 := by decide +kernel
theorem tabK : tab 64 310 3 = Sha.K := by decide +kernel
end Go.Proofs.YtbiioaggilaebaaGreatDoor.Ref
set_option linter.unusedVariables false
set_option linter.unusedSimpArgs false
namespace Go.Proofs.YtbiioaggilaebaaGreatDoor.Sha
open Go.RowKit Go.Proofs.YtbiioaggilaebaaGreatDoor.B
def dig (n : Nat) : UInt8 := ([48, 49, 50, 51, 52, 53, 54, 55, 56, 57, 97, 98, 99, 100, 101, 102] : List UInt8).getD n 0
def hexL (l : List UInt8) : List UInt8 := l.flatMap fun c => [dig (c.toNat / 16), dig (c.toNat % 16)]
theorem byte_cell {w : World} {g : Nat} {cells : Array Value} {t : TypeId} {fz : Nat × Nat} {s : ByteArray} (hg : w.heap[g]? = some (.cells cells t fz)) (ht : cells.toList.take s.size = bc s.data.toList) (j : Nat) (hj : j < s.size) :
    w.cell? ⟨g, j, none⟩ = some (.int .u8 ((s.data.toList.getD j 0).toNat : Int)) := by
  have hl : j < s.data.toList.length := by rw [len_list]; exact hj
  rw [cell_of hg, ← Array.getElem?_toList, ← show (cells.toList.take s.size)[j]? = cells.toList[j]? from by rw [List.getElem?_take, if_pos hj], ht, bc_get _ _ hl, List.getD_eq_getElem?_getD, List.getElem?_eq_getElem hl]
  rfl
theorem nib2 {c : UInt8} {n : Int} (h : (c.toNat : Int) = n) : bits .and .u8 n 15 = n % 16 := by
  subst h
  have : ∀ k, k < 256 → bits .and .u8 ((k : Nat) : Int) 15 = ((k : Nat) : Int) % 16 := by decide +kernel
  exact this _ c.toNat_lt
theorem digat (k : Nat) (h : k < ({ data := #[48, 49, 50, 51, 52, 53, 54, 55, 56, 57, 97, 98, 99, 100, 101, 102] } : ByteArray).size) : ({ data := #[48, 49, 50, 51, 52, 53, 54, 55, 56, 57, 97, 98, 99, 100, 101, 102] } : ByteArray)[k]'h = dig k := by
  have : ∀ k, k < 16 → ∀ h, ({ data := #[48, 49, 50, 51, 52, 53, 54, 55, 56, 57, 97, 98, 99, 100, 101, 102] } : ByteArray)[k]'h = dig k := by decide
  exact this k h h
theorem hex_next {l : List UInt8} (j : Nat) (hj : j < l.length) : hexL (l.take (j + 1)) = hexL (l.take j) ++ [dig ((l.getD j 0).toNat / 16), dig ((l.getD j 0).toNat % 16)] := by
  unfold hexL
  rw [List.take_add_one, List.flatMap_append, List.getD_eq_getElem?_getD, List.getElem?_eq_getElem hj]
  simp
theorem hexL_len (l : List UInt8) : (hexL l).length = l.length * 2 := by
  induction l with
  | nil => rfl
  | cons a l ih => unfold hexL at *; simp only [List.flatMap_cons, List.length_append, ih, List.length_cons, List.length_nil]; omega
theorem hexL_len' (b : ByteArray) : (hexL b.data.toList).length = b.size * 2 := by rw [hexL_len, len_list]
theorem undrew {w w' : World} {row : Option Nat} (h : w.drew.grownBy w' row) : w.grownBy w' row := ⟨h.os, h.tape, h.output, h.size, h.block⟩
end Go.Proofs.YtbiioaggilaebaaGreatDoor.Sha
