/- The walk of the reference's above and root. -/
import Derived.Test.YtpecclcihefbaaaDoorRefB
set_option linter.unusedVariables false
set_option linter.unusedSimpArgs false
namespace Go.Proofs.YtpecclcihefbaaaDoor.Ref
open Go.RowKit Go.Proofs.YtpecclcihefbaaaDoor.B

/-- Is the power above the prime times 2^(32 power)? -/
def ab (x q p : Nat) : Bool := decide (p * 65536 ^ (2 * q) < x ^ q)

structure Abv (ml : List Nat) (q r top : Nat) (rest : Bool) : Prop where
  top : top = val (ml.drop (max r (2 * q)))
  rest : rest = decide (0 < val ((ml.take (2 * q)).drop r))

theorem drop_cons (l : List Nat) (r : Nat) (h : r < l.length) : l.drop r = l.getD r 0 :: l.drop (r + 1) := by
  rw [List.drop_eq_getElem_cons h, List.getD_eq_getElem?_getD, List.getElem?_eq_getElem h]; rfl
variable {ml : List Nat} {q r top : Nat} {rest : Bool}
theorem Abv.start (ml : List Nat) (q : Nat) (h : ml.length = 3 * q) : Abv ml q (3 * q) 0 false := by
  constructor
  · rw [List.drop_of_length_le (by omega)]; rfl
  · rw [List.drop_of_length_le (by rw [List.length_take]; omega)]; rfl
theorem Abv.high (h : Abv ml q (r + 1) top rest) (hl : ml.length = 3 * q) (hr : r < 3 * q) (hq : 2 * q ≤ r) : Abv ml q r (top * 65536 + ml.getD r 0) rest := by
  constructor
  · rw [h.top, Nat.max_eq_left (by omega), Nat.max_eq_left (by omega), drop_cons ml r (by omega), val]; omega
  · rw [h.rest, List.drop_of_length_le (by rw [List.length_take]; omega), List.drop_of_length_le (by rw [List.length_take]; omega)]
theorem Abv.low (h : Abv ml q (r + 1) top rest) (hl : ml.length = 3 * q) (hq : r < 2 * q) : Abv ml q r top (rest || decide (0 < ml.getD r 0)) := by
  constructor
  · rw [h.top, Nat.max_eq_right (by omega), Nat.max_eq_right (by omega)]
  · have e : (ml.take (2 * q)).getD r 0 = ml.getD r 0 := by
      simp only [List.getD_eq_getElem?_getD]
      rw [List.getElem?_take, if_pos hq]
    rw [drop_cons (ml.take (2 * q)) r (by rw [List.length_take]; omega), val, e, h.rest, ← Bool.decide_or]
    congr 1
    apply propext
    omega
theorem small_mem {l : List Nat} (h : ∀ k, l.getD k 0 < 65536) : ∀ x ∈ l, x < 65536 := by
  intro x hx
  obtain ⟨i, hi, rfl⟩ := List.getElem_of_mem hx
  have := h i
  rwa [List.getD_eq_getElem?_getD, List.getElem?_eq_getElem hi] at this
theorem Abv.bound (h : Abv ml q r top rest) (hl : ml.length = 3 * q) (hq : q ≤ 3) (hs : ∀ k, ml.getD k 0 < 65536) : top < 281474976710656 := by
  rw [h.top]
  have h1 := val_lt (ml.drop (max r (2 * q))) (fun x hx => small_mem hs x (List.mem_of_mem_drop hx))
  have h2 : 65536 ^ (ml.drop (max r (2 * q))).length ≤ 65536 ^ 3 := Nat.pow_le_pow_right (by omega) (by rw [List.length_drop]; omega)
  omega
theorem Abv.done (h : Abv ml q 0 top rest) (hl : ml.length = 3 * q) (hs : ∀ k, ml.getD k 0 < 65536) {x : Nat} (hv : val ml = x ^ q) (p : Nat) :
    (decide (p < top) || (decide (top = p) && rest)) = ab x q p := by
  have h1 := val_split ml (2 * q) (by omega)
  have h2 := val_lt (ml.take (2 * q)) (fun x hx => small_mem hs x (List.mem_of_mem_take hx))
  rw [List.length_take, Nat.min_eq_left (by omega)] at h2
  have ht := h.top
  have hr := h.rest
  rw [Nat.max_eq_right (by omega)] at ht
  rw [List.drop_zero] at hr
  rw [hv, ← ht] at h1
  rw [hr]
  unfold ab
  rw [h1, ← Bool.decide_and, ← Bool.decide_or]
  congr 1
  apply propext
  generalize val (ml.take (2 * q)) = lo at *
  generalize 65536 ^ (2 * q) = P at *
  constructor
  · rintro (h | ⟨h, h'⟩)
    · have : P * (p + 1) ≤ P * top := Nat.mul_le_mul_left _ (by omega)
      rw [Nat.mul_comm p P]
      rw [Nat.mul_add] at this
      omega
    · subst h; rw [Nat.mul_comm]; omega
  · intro h
    by_cases e : p < top
    · exact .inl e
    · refine .inr ?_
      by_cases e2 : top = p
      · subst e2; rw [Nat.mul_comm] at h; exact ⟨rfl, by omega⟩
      · exfalso
        have : P * (top + 1) ≤ P * p := Nat.mul_le_mul_left _ (by omega)
        rw [Nat.mul_comm p P] at h
        rw [Nat.mul_add] at this
        omega

def Mul (w0 w : World) (x : Nat) (v : Value) (n : Nat) : Prop := ∃ ml, RowU w v ml ∧ ml.length = 3 * n ∧ (∀ k, ml.getD k 0 < 65536) ∧ val ml = x ^ n ∧ Tch (fun _ => False) w0 w
theorem limbs_val (x : Nat) : val [x % 65536, x / 65536 % 65536, x / 4294967296] = x := by simp only [val]; omega
theorem limbs_small (x : Nat) (hx : x < 281474976710656) : ∀ k, ([x % 65536, x / 65536 % 65536, x / 4294967296] : List Nat).getD k 0 < 65536
  | 0 => by simp; omega
  | 1 => by simp; omega
  | 2 => by simp; omega
  | k + 3 => by simp
theorem mul_next {w0 w w' : World} {x n : Nat} {ml : List Nat} {e : Ending} (hx : x < 281474976710656) (hl : ml.length = 3 * n) (hv : val ml = x ^ n) (ht : Tch (fun _ => False) w0 w)
    (h : TimesPost w ml [x % 65536, x / 65536 % 65536, x / 4294967296] e w') : ∃ v, e = .returned v ∧ Mul w0 w' x v (n + 1) := by
  obtain ⟨v, l, he, hr, hll, hs, hvl, ht'⟩ := h
  exact ⟨v, he, l, hr, by rw [hll, hl]; simp; omega, hs, by rw [hvl, hv, limbs_val, Nat.pow_succ], ht.trans ht'⟩

set_option maxRecDepth 100000 in
set_option maxHeartbeats 4000000 in
theorem above_any (x q p : Nat) (hx : x < 281474976710656) (hq1 : 1 ≤ q) (hq : q ≤ 3) (hp : p < 1000) (w : World) :
    Calls Tryd.prog 77 #[.int .u64 (x : Int), .int .i64 (q : Int), .int .i64 (p : Int)] w fun e w' => e = .returned (.bool (ab x q p)) ∧ Tch (fun _ => False) w w' := by
  have hC := Lib.hid (limbs_any x (by omega) w)
  obtain ⟨L, hL⟩ : ∃ L, L = [x % 65536, x / 65536 % 65536, x / 4294967296] := ⟨_, rfl⟩
  rw [← hL] at hC
  have hw1 : (w.alloc (.cells (nc L) 47)).heap[w.heap.size]? = some (.cells (nc L) 47 (0, 0)) := heap_alloc_at _ _
  have hLl : L.length = 3 := by rw [hL]; rfl
  have hM1 : Mul w (w.alloc (.cells (nc L) 47)) x (.slice (some ⟨w.heap.size, 0, none⟩) 3 3) 1 :=
    ⟨L, by have := RowU.of (cap := 3) hw1; rwa [hLl] at this, by omega, by rw [hL]; exact limbs_small x hx, by rw [hL, limbs_val, Nat.pow_one], (Tch.refl _ _).alloc _⟩
  have hRL : RowU (w.alloc (.cells (nc L) 47)) (.slice (some ⟨w.heap.size, 0, none⟩) 3 3) L := by have := RowU.of (cap := 3) hw1; rwa [hLl] at this
  have hq1i : (1 : Int) ≤ (q : Int) := by omega
  have hqi : (q : Int) ≤ 3 := by omega
  have hpi : (p : Int) < 1000 := by omega
  replace hM1 := Lib.hid hM1
  replace hRL := Lib.hid hRL
  replace hL := Lib.hid hL
  clear hw1
  go_enter Tryd.func77, Tryd.ntmps77
  go_wp2_with (go_at_call 88; refine (hC.out).mono ?_; rintro e w1 ⟨rfl, rfl⟩)
  clear hC
  generalize hW : w.alloc (.cells (nc L) 47) = W1 at *
  replace hW := Lib.hid hW
  go_loopg [8, 9] (q - 1) (fun g mv i W => ∃ n : Nat, g = q - n ∧ 1 ≤ n ∧ n ≤ q ∧ i = .int .i64 n ∧ Mul w W x mv n ∧ Tch (fun _ => False) W1 W)
  case atStart => exact ⟨1, rfl, by omega, by omega, rfl, hM1.out, Tch.refl _ _⟩
  case round =>
    clear hM1
    obtain ⟨n, hg, hn1, hn, rfl, hM, hT1⟩ := hrel
    subst hg
    by_cases hnl : n < q
    · have hni : (n : Int) < (q : Int) := by omega
      obtain ⟨ml, hr, hl, hs, hv, ht⟩ := hM
      have hC := Lib.hid (times_any ml L (by omega) (by omega) hs (by rw [hL.out]; exact limbs_small x hx) _ _ wr hr (hRL.out.tch hT1))
      have hN := Lib.hid (fun e w' h => mul_next (w' := w') (e := e) hx hl hv ht (by rw [← hL.out]; exact h))
      replace hT1 := Lib.hid hT1
      clear hr hl hs hv ht
      go_wp2_with (go_at_call 89; refine (hC.out).mono ?_; intro e w1 hpost; have htt := hpost; obtain ⟨v, rfl, hM⟩ := hN.out _ _ hpost; obtain ⟨_, _, _, _, _, _, _, ht9⟩ := htt; replace ht9 := Lib.hid ht9; replace hM := Lib.hid hM; clear hpost)
      go_roundg (q - (n + 1))
      case measure => omega
      case rel => exact ⟨n + 1, rfl, by omega, by omega, by go_num, hM.out, hT1.out.trans ht9.out⟩
    · have hne : n = q := by omega
      subst hne
      clear hRL hT1
      obtain ⟨ml, ⟨gm, cm, rfl, hcs⟩, hl, hs, hv, ht⟩ := hM
      have hst := Lib.hid (show Abv ml n ml.length 0 false from by have := Abv.start ml n hl; rwa [← hl] at this)
      have hbd := Lib.hid (fun (r top : Nat) (rest : Bool) (h : Abv ml n r top rest) => h.bound hl hq hs)
      have hhi := Lib.hid (fun (r top : Nat) (rest : Bool) (h : Abv ml n (r + 1) top rest) => Abv.high h hl)
      have hlo := Lib.hid (fun (r top : Nat) (rest : Bool) (h : Abv ml n (r + 1) top rest) => Abv.low h hl)
      have hdn := Lib.hid (fun (top : Nat) (rest : Bool) (h : Abv ml n 0 top rest) => h.done hl hs hv p)
      have hli : (ml.length : Int) ≤ 9 := by omega
      have hli3 : (3 : Int) ≤ (ml.length : Int) := by omega
      have hlH := Lib.hid hl
      have hcsH := Lib.hid hcs
      have hsH := Lib.hid hs
      clear hcs hs hv hl
      replace ht := Lib.hid ht
      go_wp2_with fail
      go_loopg [10, 11, 12] ml.length (fun g tv rv i W => ∃ (r top : Nat) (rest : Bool), g = r ∧ r ≤ ml.length ∧ tv = .int .u64 top ∧ rv = .bool rest ∧ i = .int .i64 ((r : Int) - 1) ∧ Abv ml n r top rest ∧ W = wr)
      case atStart => exact ⟨ml.length, 0, false, rfl, Nat.le_refl _, rfl, rfl, by go_num, hst.out, rfl⟩
      case round =>
        obtain ⟨r', top, rest, hgk, hr, rfl, rfl, rfl, hA, rfl⟩ := hrel
        by_cases hr0 : r' = 0
        · subst hr0
          subst hgk
          have hd := Lib.hid (hdn.out top rest hA)
          have hb := hbd.out _ _ _ hA
          clear hA hst
          rw [show ((0 : Nat) : Int) - 1 = -1 from rfl]
          by_cases h1 : p < top
          · have h1i : (p : Int) < (top : Int) := by omega
            have hres := Lib.hid (show ab x n p = true from by rw [← hd.out]; simp [h1])
            go_wp2_with fail
            go_ret
            exact ⟨by rw [hres.out]; rfl, ht.out⟩
          · have h1i : ¬ (p : Int) < (top : Int) := by omega
            by_cases h2 : top = p
            · subst h2
              have hres := Lib.hid (show ab x n top = rest from by rw [← hd.out]; simp)
              cases rest
              · go_wp2_with fail
                go_ret
                exact ⟨by rw [hres.out]; rfl, ht.out⟩
              · go_wp2_with fail
                go_ret
                exact ⟨by rw [hres.out]; rfl, ht.out⟩
            · have h2i : ¬ (top : Int) = (p : Int) := by omega
              have hres := Lib.hid (show ab x n p = false from by rw [← hd.out]; simp [h1, h2])
              go_wp2_with fail
              go_ret
              exact ⟨by rw [hres.out]; rfl, ht.out⟩
        · obtain ⟨r, rfl⟩ : ∃ r, r' = r + 1 := ⟨r' - 1, by omega⟩
          subst hgk
          rw [show (((r + 1 : Nat) : Int) - 1) = (r : Int) from by omega]
          have hcell := hcsH.out r (by omega)
          have hsm := hsH.out r
          have hb := hbd.out _ _ _ hA
          have hbi : (top : Int) < 281474976710656 := by omega
          have hrl : (r : Int) < (ml.length : Int) := by omega
          by_cases h2 : 2 * n ≤ r
          · have h2i : 2 * (n : Int) ≤ (r : Int) := by omega
            have hnx := Lib.hid (hhi.out _ _ _ hA (by have := hlH.out; omega) h2)
            clear hA
            generalize ml.getD r 0 = mm at *
            have hmi : (mm : Int) < 65536 := by omega
            go_wp2_with fail
            go_roundg r
            case measure => omega
            case rel => exact ⟨r, _, rest, rfl, by omega, by go_num, rfl, by go_num, hnx.out, rfl⟩
          · have h2i : ¬ 2 * (n : Int) ≤ (r : Int) := by omega
            have hnx := Lib.hid (hlo.out _ _ _ hA (by omega))
            clear hA
            generalize ml.getD r 0 = mm at *
            by_cases h3 : 0 < mm
            · have h3i : (0 : Int) < (mm : Int) := by omega
              go_wp2_with fail
              go_roundg r
              case measure => omega
              case rel => exact ⟨r, top, true, rfl, by omega, rfl, rfl, by go_num, by have := hnx.out; rwa [decide_eq_true h3, Bool.or_true] at this, rfl⟩
            · have h3i : ¬ (0 : Int) < (mm : Int) := by omega
              go_wp2_with fail
              go_roundg r
              case measure => omega
              case rel => exact ⟨r, top, rest, rfl, by omega, rfl, rfl, by go_num, by have := hnx.out; rwa [decide_eq_false h3, Bool.or_false] at this, rfl⟩

end Go.Proofs.YtpecclcihefbaaaDoor.Ref
