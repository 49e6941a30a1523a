/- tambourlaw18.NetApart: the walk. -/
import Derived.Test.YtpecclcihefbaaaNetJ
set_option linter.unusedVariables false
set_option linter.unusedSimpArgs false
namespace Go.Proofs.Ytpecclcihefbaaa.NetA
open Go.RowKit Go.Proofs.Ytpecclcihefbaaa.B Go.Proofs.Ytpecclcihefbaaa.Rd

def firsts (ts : List ByteArray) (a : Nat) : List Tx := (ts.take a).map fun s => (s, false)
theorem firsts_length (ts : List ByteArray) (a : Nat) (h : a ≤ ts.length) : (firsts ts a).length = a := by simp [firsts]; omega
theorem firsts_succ (ts : List ByteArray) (a : Nat) (h : a < ts.length) : firsts ts (a + 1) = firsts ts a ++ [(ts.getD a ByteArray.empty, false)] := by
  unfold firsts
  rw [List.take_succ_eq_append_getElem h, List.map_append]
  simp [List.getD_eq_getElem?_getD, List.getElem?_eq_getElem h]

theorem firsts_drop (ts : List ByteArray) (a j : Nat) (h : j < a) (ha : a ≤ ts.length) : (firsts ts a).drop j = (ts.getD j ByteArray.empty, false) :: (firsts ts a).drop (j + 1) := by
  have hl := firsts_length ts a ha
  rw [List.drop_eq_getElem_cons (by omega)]
  congr 1
  simp [firsts, List.getD_eq_getElem?_getD, List.getElem?_eq_getElem (show j < ts.length by omega)]

/-- The texts in memory. -/
structure Txs (w : World) (A : Option Addr) (len cap : Nat) (ts : List ByteArray) : Prop where
  e : len = ts.length
  lc : len ≤ cap
  cm : cap ≤ 140737488351232
  at_ : 0 < len → ∃ b off, A = some ⟨b, off, none⟩ ∧ ∀ j, j < len → w.cell? ⟨b, off + j, none⟩ = some (.string (ts.getD j ByteArray.empty)) ∧ (ts.getD j ByteArray.empty).size ≤ 140737488351232

theorem txs_of {w : World} {A : Option Addr} {len cap : Nat} {ts : List ByteArray} (h : RSl 1 RStr w [.slice A len cap] ts) : Txs w A len cap ts := by
  obtain ⟨h1, h2, h3, h4⟩ := sl_at h
  refine ⟨h1, h2, h3, fun h0 => ?_⟩
  obtain ⟨b, off, e, hc⟩ := h4 h0
  refine ⟨b, off, e, fun j hj => ?_⟩
  obtain ⟨es, hl, hes, h5, h6⟩ := hc j (by omega)
  have := hes 0 (by omega)
  rw [h5] at this
  rw [show ts.getD j ByteArray.empty = ts[j]'(by omega) from by simp [List.getD_eq_getElem?_getD, List.getElem?_eq_getElem (show j < ts.length by omega)]]
  exact ⟨by simpa using this, h6⟩

/-- An act's cells at a place. -/
def ActAt (w : World) (b off : Nat) (a : Act) : Prop :=
  w.cell? ⟨b, off, none⟩ = some (.int .i64 a.what) ∧ w.cell? ⟨b, off + 1, none⟩ = some (.int .i64 a.fr) ∧ w.cell? ⟨b, off + 2, none⟩ = some (.int .i64 a.too) ∧
    w.cell? ⟨b, off + 3, none⟩ = some (.int .i64 a.ix) ∧ w.cell? ⟨b, off + 4, none⟩ = some (.int .i64 a.sp) ∧ w.cell? ⟨b, off + 5, none⟩ = some (.string a.text)
structure Acts (w : World) (A : Option Addr) (len cap : Nat) : Prop where
  lc : len ≤ cap
  cm : cap ≤ 140737488351232
  at_ : 0 < len → ∃ b off, A = some ⟨b, off, none⟩ ∧ ∀ j, j < len → ∃ a : Act, ActAt w b (off + j * 6) a ∧ a.text.size ≤ 140737488351232

theorem acts_of {w : World} {A : Option Addr} {len cap : Nat} {xs : List Act} (h : RSl 6 RAct w [.slice A len cap] xs) : Acts w A len cap := by
  obtain ⟨h1, h2, h3, h4⟩ := sl_at h
  refine ⟨h2, h3, fun h0 => ?_⟩
  obtain ⟨b, off, e, hc⟩ := h4 h0
  refine ⟨b, off, e, fun j hj => ?_⟩
  obtain ⟨es, hl, hes, h5, h6⟩ := hc j (by omega)
  subst h5
  exact ⟨xs[j]'(by omega), ⟨hes 0 (by omega), hes 1 (by omega), hes 2 (by omega), hes 3 (by omega), hes 4 (by omega), hes 5 (by omega)⟩, h6⟩

theorem ActAt.keeps {w w' : World} {b off : Nat} {a : Act} (h : ActAt w b off a) (hk : Keeps w w') : ActAt w' b off a :=
  ⟨hk _ _ h.1, hk _ _ h.2.1, hk _ _ h.2.2.1, hk _ _ h.2.2.2.1, hk _ _ h.2.2.2.2.1, hk _ _ h.2.2.2.2.2⟩

theorem la_alloc {σ : Shape} {w0 w : World} {q : List Tx} (t : Three σ w0) (h : La σ w0 q w) (o : Obj) : La σ w0 q (w.alloc o) := by
  obtain ⟨Q, h1, h2, h3, h4⟩ := h
  have ht : Tch (fun _ => False) w (w.alloc o) := (Tch.refl _ w).alloc o
  exact ⟨Q, h1.tch ht (fun e => e) (fun e => e) (fun _ _ e => e) (fun _ _ e => e), h2, h3.trans (ht.below h3.size fun _ e _ => e.elim), h4⟩
theorem act_new (w : World) (a : Act) : ActAt (w.alloc (.cells #[.int .i64 a.what, .int .i64 a.fr, .int .i64 a.too, .int .i64 a.ix, .int .i64 a.sp, .string a.text] 38)) w.heap.size 0 a := by
  have hb := heap_alloc_at w (.cells #[.int .i64 a.what, .int .i64 a.fr, .int .i64 a.too, .int .i64 a.ix, .int .i64 a.sp, .string a.text] 38)
  refine ⟨?_, ?_, ?_, ?_, ?_, ?_⟩ <;> (rw [cell_of hb]; rfl)
theorem act_box {S : Nat → Prop} {w w' : World} {a : Act} (hS : ∀ k, S k → k ≠ w.heap.size)
    (ht : Tch S (w.alloc (.cells #[.int .i64 a.what, .int .i64 a.fr, .int .i64 a.too, .int .i64 a.ix, .int .i64 a.sp, .string a.text] 38)) w') : ActAt w' w.heap.size 0 a := by
  obtain ⟨h0, h1, h2, h3, h4, h5⟩ := act_new w a
  have hn : ¬ S w.heap.size := fun e => hS _ e rfl
  exact ⟨ht.cell h0 hn, ht.cell h1 hn, ht.cell h2 hn, ht.cell h3 hn, ht.cell h4 hn, ht.cell h5 hn⟩

set_option maxRecDepth 100000 in
set_option maxHeartbeats 4000000 in
theorem apart_walk (A1 A2 : Option Addr) (len1 cap1 len2 cap2 : Nat) (ts : List ByteArray) (w : World) (h1 : Txs w A1 len1 cap1 ts) (h2 : Acts w A2 len2 cap2) (hle : len1 ≤ 100) :
    Calls Try.prog 4 #[.slice A1 len1 cap1, .slice A2 len2 cap2] w fun e w' => e = .returned (.bool true) ∧ Below w.heap.size w w' := by
  have C0 := Lib.hid (awake_any w)
  have hc1 := h1.lc
  have hm1 := h1.cm
  have hc2 := h2.lc
  have hm2 := h2.cm
  have H1 := Lib.hid h1
  have H2 := Lib.hid h2
  clear h1 h2
  go_enter Try.func4, Try.ntmps4
  go_wp2_with fail
  refine (C0.out).mono ?_
  rintro e w1 ⟨rfl, hb1⟩
  have C1 := Lib.hid (new_in 3 w1 (by omega) (by omega))
  go_wp2_with fail
  refine (C1.out).mono ?_
  rintro e w2 ⟨σ, rfl, hσ, h2, ht2, hfr⟩
  have hs2 := hb1.size
  have t3 := Lib.hid (show Three σ w from ⟨hσ, fun k hk => Nat.le_trans hs2 (hfr k (.inr (.inr (.inr hk))))⟩)
  have hL := Lib.hid (show La σ w (firsts ts 0) w2 from ⟨_, h2, rfl, hb1.trans (ht2.below hs2 fun _ h _ => h.elim), fun _ _ _ _ _ _ h => by simp at h⟩)
  clear hfr h2 ht2 hσ C1 hb1 hs2 C0
  go_wp2
  go_loopg [7, 27] len2 (fun g at_ i wr => ∃ k a : Nat, g = len2 - k ∧ k ≤ len2 ∧ i = .int .i64 k ∧ at_ = .int .i64 a ∧ a ≤ len1 ∧ La σ w (firsts ts a) wr)
  case atStart => exact ⟨0, 0, rfl, by omega, rfl, rfl, by omega, hL.out⟩
  case round =>
    clear hL
    obtain ⟨k, a, hg, hk, rfl, rfl, hal, hf⟩ := hrel
    subst hg
    by_cases hlt : k < len2
    · obtain ⟨b, off, rfl, hact⟩ := H2.out.at_ (by omega)
      obtain ⟨ac, hac, hsz⟩ := hact k hlt
      have hbw : Below w.heap.size w wr := by obtain ⟨Q, _, _, h, _⟩ := hf; exact h
      obtain ⟨a0, a1, a2, a3, a4, a5⟩ := hac.keeps (Keeps.of_below hbw)
      obtain ⟨what, fr, too, ix, sp, text⟩ := ac
      simp only at a0 a1 a2 a3 a4 a5 hsz
      have hszH := Lib.hid hsz
      have hfH := Lib.hid hf
      have hlt' : (k : Int) < (len2 : Int) := by omega
      have hown := Lib.hid (show ∀ k, σ.own k → k < wr.heap.size from by
        obtain ⟨Q, h, _⟩ := hfH.out
        rintro k ⟨i, j, hi, hj, hn, rfl⟩
        exact (h.q i j hi hj hn).lt)
      have hb := hbw
      have hbH := Lib.hid hb
      clear hact hac hbw hf hsz hb
      by_cases h200 : k = 200
      · have h200' : ((k : Int) == 200) = true := by simp; omega
        clear hszH hown hbH h200
        obtain ⟨wo, rfl⟩ : ∃ wo : World, wo = wr := ⟨_, rfl⟩
        have hcap : (a : Int) ≤ (cap1 : Int) := by omega
        go_wp2
        go_loopg [108] a (fun g i wv => ∃ j : Nat, g = a - j ∧ j ≤ a ∧ i = .int .i64 j ∧ La σ w ((firsts ts a).drop j) wv)
        case atStart => exact ⟨0, rfl, by omega, rfl, la_alloc t3.out hfH.out _⟩
        case round =>
          clear hfH
          obtain ⟨j, hgj, hj, rfl, hla⟩ := hrel
          subst hgj
          by_cases hja : j < a
          · obtain ⟨b1, off1, rfl, hx⟩ := H1.out.at_ (by omega)
            have hbw : Below w.heap.size w wr := by obtain ⟨Q, _, _, h, _⟩ := hla; exact h
            have hx1 := (hx j (by omega)).1
            have hcell := (hbw.cell (p := ⟨b1, off1 + j, none⟩) (World.block_lt_of_cell? w _ hx1)).trans hx1
            have hd : (firsts ts a).drop j = (ts.getD j ByteArray.empty, false) :: (firsts ts a).drop (j + 1) := firsts_drop ts a j hja (by have := H1.out.e; omega)
            rw [hd] at hla
            have C := Lib.hid (la_take01 t3.out hla)
            have hji : (j : Int) < (a : Int) := by omega
            clear hx hbw hx1 hla hd
            generalize ts.getD j ByteArray.empty = s at *
            go_wp2_with fail
            refine (C.out).mono ?_
            rintro e wx ⟨rfl, hlx⟩
            have hlx := Lib.hid hlx
            go_wp2
            go_roundg (a - (j + 1))
            case measure => omega
            case rel => exact ⟨j + 1, rfl, by omega, by go_num, hlx.out⟩
          · obtain rfl : j = a := by omega
            have hbw := Lib.hid (show Below w.heap.size w wr from by obtain ⟨Q, _, _, h, _⟩ := hla; exact h)
            have C : Hid (Calls Try.prog 10 #[.pointer (some ⟨σ.nb, 0, none⟩), .int .i64 0, .int .i64 1] wr fun e w' => e = .returned (.int .i64 0) ∧ wr = w') := by
              have := la_len01 t3.out hla
              rw [show ((firsts ts j).drop j).length = 0 from by rw [List.length_drop, firsts_length _ _ (by have := H1.out.e; omega)]; omega] at this
              exact this
            clear hla
            go_wp2_with fail
            refine (C.out).mono ?_
            rintro e wx ⟨rfl, rfl⟩
            go_wp2
            go_ret
            exact ⟨rfl, hbw.out⟩
      · have h200' : ((k : Int) == 200) = false := by simp; omega
        go_upto_if 37 with (fail)
        go_cut [7] (fun at_ wc => ∃ a' : Nat, at_ = .int .i64 a' ∧ a' ≤ len1 ∧ La σ w (firsts ts a') wc ∧ ActAt wc wr.heap.size 0 ⟨what, fr, too, ix, sp, text⟩)
        case first =>
          by_cases ha : a < len1
          · obtain ⟨b1, off1, rfl, hx⟩ := H1.out.at_ (by omega)
            obtain ⟨hx1, hx2⟩ := hx a ha
            have hcell := hbH.out.cell (p := ⟨b1, off1 + a, none⟩) (World.block_lt_of_cell? w _ hx1) |>.trans hx1
            have hal := (Keeps.alloc wr (.cells #[.int .i64 what, .int .i64 fr, .int .i64 too, .int .i64 ix, .int .i64 sp, .string text] 38)) _ _ hcell
            have hta : (a : Int) < (len1 : Int) := by omega
            have C := Lib.hid (la_send01 t3.out (la_alloc t3.out hfH.out (.cells #[.int .i64 what, .int .i64 fr, .int .i64 too, .int .i64 ix, .int .i64 sp, .string text] 38)) (ts.getD a ByteArray.empty) hx2 (by rw [firsts_length _ _ (by have := H1.out.e; omega)]; omega))
            have hsucc := Lib.hid (firsts_succ ts a (by have := H1.out.e; omega))
            clear hx hx1 hx2
            generalize ts.getD a ByteArray.empty = s at *
            go_wp2_with fail
            refine (C.out).mono ?_
            rintro e wb ⟨rfl, hla, htt⟩
            have hfin := Lib.hid (show La σ w (firsts ts (a + 1)) wb ∧ ActAt wb wr.heap.size 0 ⟨what, fr, too, ix, sp, text⟩ from ⟨by rw [hsucc.out]; exact hla, act_box (fun k hk e => by have := hown.out k hk; omega) htt⟩)
            clear hla htt C
            go_wp2
            go_meet
            exact ⟨a + 1, by go_num, by omega, hfin.out⟩
          · have hta : ¬ (a : Int) < (len1 : Int) := by omega
            have hfin := Lib.hid (show La σ w (firsts ts a) (wr.alloc (.cells #[.int .i64 what, .int .i64 fr, .int .i64 too, .int .i64 ix, .int .i64 sp, .string text] 38)) ∧ ActAt (wr.alloc (.cells #[.int .i64 what, .int .i64 fr, .int .i64 too, .int .i64 ix, .int .i64 sp, .string text] 38)) wr.heap.size 0 ⟨what, fr, too, ix, sp, text⟩ from
              ⟨la_alloc t3.out hfH.out _, act_new _ ⟨what, fr, too, ix, sp, text⟩⟩)
            go_wp2
            go_meet
            exact ⟨a, rfl, hal, hfin.out⟩
        case rest =>
          clear a0 a1 a2 a3 a4 a5 hfH hown hbH hal
          obtain ⟨a', rfl, hal, hla, ⟨a0, a1, a2, a3, a4, a5⟩⟩ := hcut
          simp only [Nat.zero_add] at a0 a1 a2 a3 a4 a5
          have hlaH := Lib.hid hla
          clear hla
          by_cases h0 : fr = 0
          · subst h0
            by_cases h1 : too = 1
            · subst h1
              go_wp2
              go_roundg (len2 - (k + 1))
              case measure => omega
              case rel => exact ⟨k + 1, a', rfl, by omega, by go_num, rfl, hal, hlaH.out⟩
            · have hb1 : (too == 1) = false := by simp [h1]
              have CS := Lib.hid (oth_send t3.out hlaH.out 0 too text hszH.out (by omega))
              have CT := Lib.hid (oth_take t3.out hlaH.out 0 too (by omega))
              have CD := Lib.hid (oth_double t3.out hlaH.out 0 too (by omega))
              have CU := Lib.hid (oth_turn t3.out hlaH.out 0 too (by omega))
              have CO := Lib.hid (oth_spoil t3.out hlaH.out 0 too ix sp (by omega))
              go_wp2_with (first | (go_at_call 8; refine (CS.out).mono ?_; rintro e w' ⟨⟨v, rfl⟩, hla, _⟩; have hla := Lib.hid hla) | (go_at_call 13; refine (CT.out).mono ?_; rintro e w' ⟨⟨v, rfl⟩, hla, _⟩; have hla := Lib.hid hla) | (go_at_call 9; refine (CD.out).mono ?_; rintro e w' ⟨⟨v, rfl⟩, hla, _⟩; have hla := Lib.hid hla) | (go_at_call 12; refine (CU.out).mono ?_; rintro e w' ⟨⟨v, rfl⟩, hla, _⟩; have hla := Lib.hid hla) | (go_at_call 14; refine (CO.out).mono ?_; rintro e w' ⟨⟨v, rfl⟩, hla, _⟩; have hla := Lib.hid hla))
              all_goals
                go_roundg (len2 - (k + 1))
                case measure => omega
                case rel => first | exact ⟨k + 1, a', rfl, by omega, by go_num, rfl, hal, hla.out⟩ | exact ⟨k + 1, a', rfl, by omega, by go_num, rfl, hal, hlaH.out⟩
          · have hb0 : (fr == 0) = false := by simp [h0]
            have CS := Lib.hid (oth_send t3.out hlaH.out fr too text hszH.out (by omega))
            have CT := Lib.hid (oth_take t3.out hlaH.out fr too (by omega))
            have CD := Lib.hid (oth_double t3.out hlaH.out fr too (by omega))
            have CU := Lib.hid (oth_turn t3.out hlaH.out fr too (by omega))
            have CO := Lib.hid (oth_spoil t3.out hlaH.out fr too ix sp (by omega))
            go_wp2_with (first | (go_at_call 8; refine (CS.out).mono ?_; rintro e w' ⟨⟨v, rfl⟩, hla, _⟩; have hla := Lib.hid hla) | (go_at_call 13; refine (CT.out).mono ?_; rintro e w' ⟨⟨v, rfl⟩, hla, _⟩; have hla := Lib.hid hla) | (go_at_call 9; refine (CD.out).mono ?_; rintro e w' ⟨⟨v, rfl⟩, hla, _⟩; have hla := Lib.hid hla) | (go_at_call 12; refine (CU.out).mono ?_; rintro e w' ⟨⟨v, rfl⟩, hla, _⟩; have hla := Lib.hid hla) | (go_at_call 14; refine (CO.out).mono ?_; rintro e w' ⟨⟨v, rfl⟩, hla, _⟩; have hla := Lib.hid hla))
            all_goals
              go_roundg (len2 - (k + 1))
              case measure => omega
              case rel => first | exact ⟨k + 1, a', rfl, by omega, by go_num, rfl, hal, hla.out⟩ | exact ⟨k + 1, a', rfl, by omega, by go_num, rfl, hal, hlaH.out⟩
    · obtain rfl : k = len2 := by omega
      have hfH := Lib.hid hf
      clear hf
      obtain ⟨wo, rfl⟩ : ∃ wo : World, wo = wr := ⟨_, rfl⟩
      have hcap : (a : Int) ≤ (cap1 : Int) := by omega
      go_wp2
      go_loopg [108] a (fun g i wv => ∃ j : Nat, g = a - j ∧ j ≤ a ∧ i = .int .i64 j ∧ La σ w ((firsts ts a).drop j) wv)
      case atStart => exact ⟨0, rfl, by omega, rfl, hfH.out⟩
      case round =>
        clear hfH
        obtain ⟨j, hgj, hj, rfl, hla⟩ := hrel
        subst hgj
        by_cases hja : j < a
        · obtain ⟨b1, off1, rfl, hx⟩ := H1.out.at_ (by omega)
          have hbw : Below w.heap.size w wr := by obtain ⟨Q, _, _, h, _⟩ := hla; exact h
          have hx1 := (hx j (by omega)).1
          have hcell := (hbw.cell (p := ⟨b1, off1 + j, none⟩) (World.block_lt_of_cell? w _ hx1)).trans hx1
          have hd : (firsts ts a).drop j = (ts.getD j ByteArray.empty, false) :: (firsts ts a).drop (j + 1) := firsts_drop ts a j hja (by have := H1.out.e; omega)
          rw [hd] at hla
          have C := Lib.hid (la_take01 t3.out hla)
          have hji : (j : Int) < (a : Int) := by omega
          clear hx hbw hx1 hla hd
          generalize ts.getD j ByteArray.empty = s at *
          go_wp2_with fail
          refine (C.out).mono ?_
          rintro e wx ⟨rfl, hlx⟩
          have hlx := Lib.hid hlx
          go_wp2
          go_roundg (a - (j + 1))
          case measure => omega
          case rel => exact ⟨j + 1, rfl, by omega, by go_num, hlx.out⟩
        · obtain rfl : j = a := by omega
          have hbw := Lib.hid (show Below w.heap.size w wr from by obtain ⟨Q, _, _, h, _⟩ := hla; exact h)
          have C : Hid (Calls Try.prog 10 #[.pointer (some ⟨σ.nb, 0, none⟩), .int .i64 0, .int .i64 1] wr fun e w' => e = .returned (.int .i64 0) ∧ wr = w') := by
            have := la_len01 t3.out hla
            rw [show ((firsts ts j).drop j).length = 0 from by rw [List.length_drop, firsts_length _ _ (by have := H1.out.e; omega)]; omega] at this
            exact this
          clear hla
          go_wp2_with fail
          refine (C.out).mono ?_
          rintro e wx ⟨rfl, rfl⟩
          go_wp2
          go_ret
          exact ⟨rfl, hbw.out⟩

end Go.Proofs.Ytpecclcihefbaaa.NetA
