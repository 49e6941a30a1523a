/- What LawWireReads, LawWireWrites, LawWireSpoilt lean on, part t of 25: the texts TmO. -/
import Derived.Test.YtbefkoljcacpcaaGreatDoorTVs
set_option linter.unusedVariables false
set_option linter.unusedSimpArgs false
namespace Go.Proofs.YtbefkoljcacpcaaGreatDoor.Tm
open Go Go.RowKit Go.Proofs.YtbefkoljcacpcaaGreatDoor.B Go.Proofs.YtbefkoljcacpcaaGreatDoor.Bld Go.Proofs.YtbefkoljcacpcaaGreatDoor.Sha
theorem dec_len_le (k : Nat) : ∀ n, n < 10 ^ (k + 1) → (Lib.decDigits n).length ≤ k + 1 := by
  induction k with
  | zero =>
    intro n hn
    rw [Lib.decDigits, dif_pos (by simpa using hn)]; simp
  | succ k ih =>
    intro n hn
    rw [Lib.decDigits]
    split
    · simp
    · rw [List.length_append]
      have := ih (n / 10) (by rw [Nat.pow_succ] at hn; omega)
      simp; omega
theorem itoa_len20 (n : Int) (h0 : -9223372036854775808 ≤ n) (h1 : n ≤ 9223372036854775807) : (Lib.itoa n).length ≤ 20 := by
  by_cases hn : 0 ≤ n
  · obtain ⟨m, rfl⟩ : ∃ m : Nat, n = (m : Int) := ⟨n.toNat, by omega⟩
    rw [Lib.itoa_nonneg]
    have := dec_len_le 18 m (by have : (10 : Nat) ^ (18 + 1) = 10000000000000000000 := by decide
                                omega)
    omega
  · obtain ⟨m, rfl, hm⟩ : ∃ m : Nat, n = -(m : Int) ∧ 1 ≤ m := ⟨(-n).toNat, by omega, by omega⟩
    rw [Lib.itoa_neg m hm, List.length_cons]
    have := dec_len_le 18 m (by have : (10 : Nat) ^ (18 + 1) = 10000000000000000000 := by decide
                                omega)
    omega
def RNumPost (fb : Bool) (t : ByteArray) (nl : Nat) (least most : Int) (w : World) (ev : Ending) (w' : World) : Prop :=
  ∃ x er, ev = .returned (.tuple #[.int .i64 x, .int .i64 er]) ∧ (er = 0 ∨ er = 5) ∧ (er = 0 → least ≤ x ∧ x ≤ most) ∧
    (∀ n, least ≤ n → n ≤ most → fb = false → nl = 0 → t.data.toList = Lib.itoa n → er = 0 ∧ x = n) ∧ Below w.heap.size w w'
theorem rnum_no {fb : Bool} {t : ByteArray} {nl : Nat} {least most : Int} {w w' : World} (hb : Below w.heap.size w w')
    (h : ∀ n, least ≤ n → n ≤ most → fb = false → nl = 0 → t.data.toList = Lib.itoa n → False) : RNumPost fb t nl least most w (.returned (.tuple #[.int .i64 0, .int .i64 5])) w' :=
  ⟨0, 5, rfl, .inr rfl, fun h => (by cases h), fun n h1 h2 h3 h4 h5 => (h n h1 h2 h3 h4 h5).elim, hb⟩
theorem rnum_no' {fb : Bool} {t : ByteArray} {nl : Nat} {least most : Int} {w w' : World} (hb : Below w.heap.size w w')
    (h : ∀ n, least ≤ n → n ≤ most → t.data.toList = Lib.itoa n → False) : RNumPost fb t nl least most w (.returned (.tuple #[.int .i64 0, .int .i64 5])) w' := rnum_no hb fun n h1 h2 _ _ h5 => h n h1 h2 h5
def NInv (l : List UInt8) (k : Nat) (v : Nat) : Prop := k ≤ l.length ∧ v = val (l.take k) ∧ v ≤ 9223372036854775808 ∧ ∀ j, j < k → ∀ c, l[j]? = some c → isD c
theorem ninv_zero (l : List UInt8) : NInv l 0 0 := ⟨Nat.zero_le _, rfl, by omega, fun j hj => absurd hj (by omega)⟩
theorem ninv_step {l : List UInt8} {k v : Nat} {c : UInt8} (h : NInv l k v) (hc : l[k]? = some c) (hd : isD c) (hv : 10 * v + (c.toNat - 48) ≤ 9223372036854775808) : NInv l (k + 1) (10 * v + (c.toNat - 48)) := by
  obtain ⟨h1, h2, h3, h4⟩ := h
  have hk := (List.getElem?_eq_some_iff.1 hc).1
  refine ⟨by omega, by rw [take_at hc, val_snoc, ← h2], hv, fun j hj d hdj => ?_⟩
  by_cases e : j = k
  · subst e; rw [hc] at hdj; rw [← Option.some.inj hdj]; exact hd
  · exact h4 j (by omega) d hdj
def MagOf (below : Bool) (l : List UInt8) (n : Int) : Prop := ∃ m : Nat, l = Lib.decDigits m ∧ n = (if below then -(m : Int) else (m : Int)) ∧ (below = false → m ≤ 9223372036854775807) ∧ m ≤ 9223372036854775808
theorem mag_big {below : Bool} {l : List UInt8} {n : Int} {k v : Nat} {c : UInt8} (hm : MagOf below l n) (h : NInv l k v) (hc : l[k]? = some c) (hv : 9223372036854775808 < 10 * v + (c.toNat - 48)) : False := by
  obtain ⟨m, rfl, _, _, hm⟩ := hm
  have h2 := val_le_append ((Lib.decDigits m).drop (k + 1)) ((Lib.decDigits m).take (k + 1))
  rw [List.take_append_drop, val_dec, take_at hc, val_snoc, ← h.2.1] at h2
  omega
theorem mag_nod {below : Bool} {l : List UInt8} {n : Int} {k : Nat} {c : UInt8} (hm : MagOf below l n) (hc : l[k]? = some c) (hd : ¬ isD c) : False := by
  obtain ⟨m, rfl, _⟩ := hm
  obtain ⟨hk, e⟩ := List.getElem?_eq_some_iff.1 hc
  exact hd (dec_digit m c (by rw [← e]; exact List.getElem_mem hk))
theorem mag_end {below : Bool} {l : List UInt8} {n : Int} {v : Nat} (hm : MagOf below l n) (h : NInv l l.length v) : n = (if below then -(v : Int) else (v : Int)) ∧ (below = false → v ≤ 9223372036854775807) := by
  obtain ⟨m, e, h1, h2, _⟩ := hm
  have h3 := h.2.1
  rw [List.take_length, e, val_dec] at h3
  rw [h3]
  exact ⟨h1, h2⟩
theorem mag_neg {t u : List UInt8} {n : Int} (h0 : -9223372036854775808 ≤ n) (h1 : n ≤ 9223372036854775807) (ht : t = 45 :: u) (h : t = Lib.itoa n) : MagOf true u n := by
  by_cases hn : 0 ≤ n
  · exfalso
    obtain ⟨m, rfl⟩ : ∃ m : Nat, n = (m : Int) := ⟨n.toNat, by omega⟩
    rw [Lib.itoa_nonneg] at h
    have := dec_digit m 45 (by rw [← h, ht]; simp)
    simp at this
  · obtain ⟨m, rfl, hm⟩ : ∃ m : Nat, n = -(m : Int) ∧ 1 ≤ m := ⟨(-n).toNat, by omega, by omega⟩
    rw [Lib.itoa_neg m hm, ht] at h
    exact ⟨m, (List.cons.inj h).2, rfl, fun h => (by cases h), by omega⟩
theorem mag_pos {t : List UInt8} {n : Int} (h0 : -9223372036854775808 ≤ n) (h1 : n ≤ 9223372036854775807) (ht : t[0]? ≠ some 45) (h : t = Lib.itoa n) : MagOf false t n := by
  by_cases hn : 0 ≤ n
  · obtain ⟨m, rfl⟩ : ∃ m : Nat, n = (m : Int) := ⟨n.toNat, by omega⟩
    rw [Lib.itoa_nonneg] at h
    exact ⟨m, h, rfl, fun _ => by omega, by omega⟩
  · exfalso
    obtain ⟨m, rfl, hm⟩ : ∃ m : Nat, n = -(m : Int) ∧ 1 ≤ m := ⟨(-n).toNat, by omega, by omega⟩
    rw [Lib.itoa_neg m hm] at h
    rw [h] at ht
    simp at ht
def NBad1 (fb : Bool) (nl : Nat) (t : ByteArray) (bad : Bool) : Prop := (bad = true → fb = true ∨ nl ≠ 0 ∨ 20 < t.size) ∧ (bad = false → fb = false ∧ nl = 0 ∧ t.size ≤ 20)
def NBad2 (t : ByteArray) (below : Bool) : Prop := (below = true → t.data.toList[0]? = some 45) ∧ (below = false → t.data.toList[0]? ≠ some 45)
set_option maxRecDepth 100000 in
set_option maxHeartbeats 16000000 in
theorem rnumber_c (fb : Bool) (t : ByteArray) (A : Option Addr) (nl c : Nat) (least most : Int) (hlo : -9223372036854775808 ≤ least) (hmo : most ≤ 9223372036854775807) (hnl : nl ≤ 140737488355328) (w : World) :
    Calls Tryz.prog 32 #[.agg #[.bool fb, .string t, .slice A nl c], .int .i64 least, .int .i64 most] w (RNumPost fb t nl least most w) := by
  obtain ⟨w0, hw0⟩ : ∃ w0, w0 = w.alloc (.cells #[.bool fb, .string t, .slice A nl c] 52) := ⟨_, rfl⟩
  have hb0 : Below w.heap.size w w0 := by rw [hw0]; exact (Below.refl _ _).alloc (Nat.le_refl _) _
  have hx0 : w0.heap[w.heap.size]? = some (.cells #[.bool fb, .string t, .slice A nl c] 52 (0, 0)) := by rw [hw0]; exact heap_alloc_at _ _
  obtain ⟨k0, k1, k2, _, _⟩ := blk3 hx0
  have l1 := Lib.hid (Lat.cell k1)
  replace hb0 := Lib.hid hb0
  have hloH := Lib.hid hlo
  have hmoH := Lib.hid hmo
  have htl := Lib.hid (toList_size t)
  clear hx0 hlo hmo
  go_enter Tryz.func32, Tryz.ntmps32
  go_upto_region 1 with fail
  rw [← hw0]
  replace hw0 := Lib.hid hw0
  go_cut [25] (fun v wc => ∃ bad : Bool, v = .bool bad ∧ wc = w0 ∧ NBad1 fb nl t bad)
  case first =>
    cases fb with
    | true =>
      go_wp2_with fail
      go_meet
      case rel => exact ⟨_, rfl, rfl, fun _ => .inl rfl, fun h => (by cases h)⟩
    | false =>
      by_cases hn : 0 < nl
      · have hni : (0 : Int) < (nl : Int) := by omega
        go_wp2_with fail
        go_meet
        case rel => exact ⟨_, rfl, rfl, fun _ => .inr (.inl (by omega)), fun h => (by cases h)⟩
      · have hni : ¬ (0 : Int) < (nl : Int) := by omega
        by_cases hs : 20 < t.size
        · have hsi : (20 : Int) < (t.size : Int) := by omega
          go_wp2_with fail
          go_meet
          case rel => exact ⟨_, rfl, rfl, fun _ => .inr (.inr hs), fun h => (by cases h)⟩
        · have hsi : ¬ (20 : Int) < (t.size : Int) := by omega
          go_wp2_with fail
          go_meet
          case rel => exact ⟨_, rfl, rfl, fun h => (by cases h), fun _ => ⟨rfl, by omega, by omega⟩⟩
  case rest =>
    obtain ⟨bad, rfl, rfl, hbad, hgood⟩ := hcut
    cases bad with
    | true =>
      have hno := Lib.hid (show ∀ n, least ≤ n → n ≤ most → fb = false → nl = 0 → t.data.toList = Lib.itoa n → False by
        intro n h1 h2 h3 h4 h5
        rcases hbad rfl with h | h | h
        · rw [h3] at h; cases h
        · exact h h4
        · have := itoa_len20 n (by have := hloH.out; omega) (by have := hmoH.out; omega)
          rw [← h5, htl.out] at this
          omega)
      clear hbad hgood
      go_wp2_with fail
      go_ret2
      exact rnum_no hb0.out hno.out
    | false =>
      obtain ⟨rfl, rfl, hs20⟩ := hgood rfl
      have hs20i : (t.size : Int) ≤ 20 := by omega
      clear hbad hgood
      go_upto_region 4 with fail
      go_cut [9] (fun v w2 => ∃ below : Bool, v = .bool below ∧ w2 = wc ∧ NBad2 t below)
      case first =>
        by_cases hz : t.size = 0
        · have hnil : t.data.toList = [] := List.eq_nil_of_length_eq_zero (by rw [htl.out]; exact hz)
          have hre : t.toList = [] := by rw [ByteArray.toList_eq]; exact hnil
          have hn := Lib.hid (show t.data.toList[0]? ≠ some 45 by rw [hnil]; simp)
          clear hnil
          go_wp2_with fail
          go_meet
          case rel => exact ⟨_, rfl, rfl, fun h => (by cases h), fun _ => hn.out⟩
        · have hre1 : ¬ t.toList = [] := by rw [ByteArray.toList_eq]; intro e; have := htl.out; rw [e] at this; simp at this; omega
          have hre2 : t.toList.isEmpty = false := by simpa using hre1
          have hrp : 0 < t.size := by omega
          have hrpi : (0 : Int) < (t.size : Int) := by omega
          have hl0 := Lib.hid (show t.data.toList[0]? = some (t[0]'hrp) by rw [Array.getElem?_toList, Array.getElem?_eq_getElem hrp]; rfl)
          by_cases h45 : t[0]'hrp = 45
          · have q45 : (((t[0]'hrp).toNat : Int) == 45) = true := by rw [h45]; rfl
            have hy := Lib.hid (show t.data.toList[0]? = some 45 by rw [hl0.out, h45])
            clear h45
            go_wp2_with fail
            go_meet
            case rel => exact ⟨_, rfl, rfl, fun _ => hy.out, fun h => (by cases h)⟩
          · have q45 : (((t[0]'hrp).toNat : Int) == 45) = false := by
              rw [beq_eq_false_iff_ne]
              intro h
              exact h45 (UInt8.toNat_inj.1 (by have : ((45 : UInt8).toNat : Int) = 45 := rfl; omega))
            have hy := Lib.hid (show t.data.toList[0]? ≠ some 45 by rw [hl0.out]; simpa using h45)
            clear h45
            go_wp2_with fail
            go_meet
            case rel => exact ⟨_, rfl, rfl, fun h => (by cases h), fun _ => hy.out⟩
      case rest =>
        obtain ⟨below, rfl, rfl, hbt, hbf⟩ := hcut
        cases below with
        | true =>
          have h45 := hbt rfl
          have h1s : 1 ≤ t.size := by rw [← htl.out]; have := (List.getElem?_eq_some_iff.1 h45).1; omega
          have h1si : (1 : Int) ≤ (t.size : Int) := by omega
          obtain ⟨u, hu⟩ : ∃ u, u = t.extract 1 t.size := ⟨_, rfl⟩
          have hut := Lib.hid (show t.data.toList = 45 :: u.data.toList by
            rw [hu, extract_toList]
            generalize t.data.toList = q at *
            cases q with
            | nil => cases h45
            | cons x q =>
              simp only [List.getElem?_cons_zero, Option.some.injEq] at h45
              rw [h45]; rfl)
          have hmag := Lib.hid (show ∀ n, least ≤ n → n ≤ most → t.data.toList = Lib.itoa n → MagOf true u.data.toList n from fun n a b h => mag_neg (by have := hloH.out; omega) (by have := hmoH.out; omega) hut.out h)
          have hus : u.size ≤ 20 := by rw [← toList_size]; have := congrArg List.length hut.out; rw [htl.out, List.length_cons] at this; omega
          clear hbt hbf h45
          go_upto_region 7 with fail
          rw [← hu]
          replace hu := Lib.hid hu
          have hul := Lib.hid (toList_size u)
          have husi : (u.size : Int) ≤ 20 := by omega
          go_wp2_with fail
          go_loopg [10, 11] u.size (fun g' v i W => ∃ k m : Nat, g' = u.size - k ∧ v = .int .i64 (-(m : Int)) ∧ i = .int .i64 k ∧ NInv u.data.toList k m ∧ W = wc)
          case atStart => exact ⟨0, 0, rfl, rfl, rfl, ninv_zero _, rfl⟩
          case round =>
            obtain ⟨k, m, hg', rfl, rfl, hI, rfl⟩ := hrel
            subst hg'
            have hkl := hI.1
            rw [hul.out] at hkl
            have hm63 := hI.2.2.1
            have hIH := Lib.hid hI
            clear hI
            by_cases hkn : k < u.size
            · have hki : (k : Int) < (u.size : Int) := by omega
              have hix := fun (W : World) => str_idx (P := Tryz.prog) Tryz.underlying9 u k hkn W
              have hat := Lib.hid (getD_some (l := u.data.toList) (k := k) (by rw [hul.out]; exact hkn))
              generalize u.data.toList.getD k 0 = a at *
              obtain ⟨b, hb⟩ : ∃ b, b = a.toNat := ⟨_, rfl⟩
              have hb256 : b < 256 := by rw [hb]; exact a.toNat_lt
              rw [← hb] at hix
              replace hb := Lib.hid hb
              by_cases hd : 48 ≤ b ∧ b ≤ 57
              · obtain ⟨hd1, hd2⟩ := hd
                have hdH := Lib.hid (show isD a by unfold isD; rw [← hb.out]; exact ⟨hd1, hd2⟩)
                have g1 : ¬ (b : Int) < 48 := by omega
                have g2 : ¬ (57 : Int) < (b : Int) := by omega
                have gw : ((b : Int) - 48) % 256 = (b : Int) - 48 := by omega
                have gq : Int.tdiv (-9223372036854775808 + ((b : Int) - 48)) 10 = -((9223372036854775808 - ((b : Int) - 48)) / 10) := by
                  rw [show (-9223372036854775808 + ((b : Int) - 48)) = -(9223372036854775808 - ((b : Int) - 48)) from by omega, Int.neg_tdiv, Int.tdiv_eq_ediv_of_nonneg (by omega)]
                by_cases hbg : 9223372036854775808 < 10 * m + (b - 48)
                · have hno := Lib.hid (show ∀ n, least ≤ n → n ≤ most → t.data.toList = Lib.itoa n → False from fun n a1 b1 h => mag_big (hmag.out n a1 b1 h) hIH.out hat.out (by rw [← hb.out]; exact hbg))
                  have q1 : -(m : Int) < -((9223372036854775808 - ((b : Int) - 48)) / 10) := by omega
                  clear hbg
                  go_wp2_with fail
                  go_ret2
                  exact rnum_no' hb0.out hno.out
                · have q1 : ¬ -(m : Int) < -((9223372036854775808 - ((b : Int) - 48)) / 10) := by omega
                  have hs1 := Lib.hid (ninv_step hIH.out hat.out hdH.out (by rw [← hb.out]; omega))
                  rw [← hb.out] at hs1
                  have gs := Lib.hid (show -(((10 * m + (b - 48) : Nat)) : Int) = -(m : Int) * 10 - ((b : Int) - 48) by omega)
                  clear hbg
                  go_wp2_with fail
                  go_roundg (u.size - (k + 1))
                  case measure => omega
                  case rel => exact ⟨k + 1, _, rfl, by rw [gs.out], by go_num, hs1.out, rfl⟩
              · have hdH := Lib.hid (show ¬ isD a by unfold isD; rw [← hb.out]; exact hd)
                have hno := Lib.hid (show ∀ n, least ≤ n → n ≤ most → t.data.toList = Lib.itoa n → False from fun n a1 b1 h => mag_nod (hmag.out n a1 b1 h) hat.out hdH.out)
                by_cases g1 : (b : Int) < 48
                · clear hd
                  go_wp2_with fail
                  go_ret2
                  exact rnum_no' hb0.out hno.out
                · have g2 : (57 : Int) < (b : Int) := by omega
                  clear hd
                  go_wp2_with fail
                  go_ret2
                  exact rnum_no' hb0.out hno.out
            · have hkn' : k = u.size := by omega
              subst hkn'
              have hki : ¬ (u.size : Int) < (u.size : Int) := by omega
              have hend := Lib.hid (show ∀ n, least ≤ n → n ≤ most → t.data.toList = Lib.itoa n → n = -(m : Int) ∧ (True) from fun n a1 b1 h => by
                have := mag_end (hmag.out n a1 b1 h) (by rw [hul.out]; exact hIH.out)
                exact ⟨this.1, by trivial⟩)
              obtain ⟨N, hN⟩ : ∃ N : Int, N = -(m : Int) := ⟨_, rfl⟩
              have hNe := Lib.hid (show ∀ n, least ≤ n → n ≤ most → t.data.toList = Lib.itoa n → n = N from fun n a1 b1 h => by rw [hN]; exact (hend.out n a1 b1 h).1)
              have hN0 : -9223372036854775808 ≤ N := by omega
              have hN1 : N ≤ 9223372036854775807 := by omega
              rw [← hN]
              replace hN := Lib.hid hN
              clear hmag
              have CD := fun (y : Lat wr) => Lib.hid (digits_c N hN0 hN1 y.val)
              have l1' := l1.out
              by_cases hit : t.data.toList = Lib.itoa N
              · have q1 : (Lib.itoa N == t.toList) = true := by rw [ByteArray.toList_eq, hit]; simp
                by_cases hl : N < least
                · have hno := Lib.hid (show ∀ n, least ≤ n → n ≤ most → t.data.toList = Lib.itoa n → False from fun n a1 b1 h => by have := hNe.out n a1 b1 h; omega)
                  go_upto_region 20 with fail
                  refine wp_region_lat (by kernel_rfl) (by kernel_rfl) ?_
                  repeat (go_big_quiet_step ((go_at_call 59; exact lat_of (CD _).out)))
                  refine wpQuiet_nil ?_
                  intro _ hw'
                  obtain ⟨xl, hw''⟩ := hw'
                  subst hw''
                  have hbx := Lib.hid xl.below
                  go_wp2_with fail
                  go_ret2
                  exact rnum_no' (hb0.out.trans (hbx.out.mono hb0.out.size)) hno.out
                · by_cases hm : most < N
                  · have hno := Lib.hid (show ∀ n, least ≤ n → n ≤ most → t.data.toList = Lib.itoa n → False from fun n a1 b1 h => by have := hNe.out n a1 b1 h; omega)
                    go_upto_region 20 with fail
                    refine wp_region_lat (by kernel_rfl) (by kernel_rfl) ?_
                    repeat (go_big_quiet_step ((go_at_call 59; exact lat_of (CD _).out)))
                    refine wpQuiet_nil ?_
                    intro _ hw'
                    obtain ⟨xl, hw''⟩ := hw'
                    subst hw''
                    have hbx := Lib.hid xl.below
                    go_wp2_with fail
                    go_ret2
                    exact rnum_no' (hb0.out.trans (hbx.out.mono hb0.out.size)) hno.out
                  ·
                    go_upto_region 20 with fail
                    refine wp_region_lat (by kernel_rfl) (by kernel_rfl) ?_
                    repeat (go_big_quiet_step ((go_at_call 59; exact lat_of (CD _).out)))
                    refine wpQuiet_nil ?_
                    intro _ hw'
                    obtain ⟨xl, hw''⟩ := hw'
                    subst hw''
                    have hbx := Lib.hid xl.below
                    go_wp2_with fail
                    go_ret2
                    exact ⟨N, 0, rfl, .inl rfl, fun _ => ⟨by omega, by omega⟩, fun n a1 b1 _ _ h => ⟨rfl, (hNe.out n a1 b1 h).symm⟩, hb0.out.trans (hbx.out.mono hb0.out.size)⟩
              · have q1 : (Lib.itoa N == t.toList) = false := by
                  rw [ByteArray.toList_eq, beq_eq_false_iff_ne]
                  exact fun e => hit e.symm
                have hno := Lib.hid (show ∀ n, least ≤ n → n ≤ most → t.data.toList = Lib.itoa n → False from fun n a1 b1 h => by have := hNe.out n a1 b1 h; subst this; exact hit h)
                go_upto_region 20 with fail
                refine wp_region_lat (by kernel_rfl) (by kernel_rfl) ?_
                repeat (go_big_quiet_step ((go_at_call 59; exact lat_of (CD _).out)))
                refine wpQuiet_nil ?_
                intro _ hw'
                obtain ⟨xl, hw''⟩ := hw'
                subst hw''
                have hbx := Lib.hid xl.below
                go_wp2_with fail
                go_ret2
                exact rnum_no' (hb0.out.trans (hbx.out.mono hb0.out.size)) hno.out

        | false =>
          have h45 := hbf rfl
          have hmag := Lib.hid (show ∀ n, least ≤ n → n ≤ most → t.data.toList = Lib.itoa n → MagOf false t.data.toList n from fun n a b h => mag_pos (by have := hloH.out; omega) (by have := hmoH.out; omega) h45 h)
          have hus : t.size ≤ 20 := hs20
          clear hbt hbf h45
          go_upto_region 7 with fail
          have hul := Lib.hid (toList_size t)
          have husi : (t.size : Int) ≤ 20 := by omega
          go_wp2_with fail
          go_loopg [10, 11] t.size (fun g' v i W => ∃ k m : Nat, g' = t.size - k ∧ v = .int .i64 (-(m : Int)) ∧ i = .int .i64 k ∧ NInv t.data.toList k m ∧ W = wc)
          case atStart => exact ⟨0, 0, rfl, rfl, rfl, ninv_zero _, rfl⟩
          case round =>
            obtain ⟨k, m, hg', rfl, rfl, hI, rfl⟩ := hrel
            subst hg'
            have hkl := hI.1
            rw [hul.out] at hkl
            have hm63 := hI.2.2.1
            have hIH := Lib.hid hI
            clear hI
            by_cases hkn : k < t.size
            · have hki : (k : Int) < (t.size : Int) := by omega
              have hix := fun (W : World) => str_idx (P := Tryz.prog) Tryz.underlying9 t k hkn W
              have hat := Lib.hid (getD_some (l := t.data.toList) (k := k) (by rw [hul.out]; exact hkn))
              generalize t.data.toList.getD k 0 = a at *
              obtain ⟨b, hb⟩ : ∃ b, b = a.toNat := ⟨_, rfl⟩
              have hb256 : b < 256 := by rw [hb]; exact a.toNat_lt
              rw [← hb] at hix
              replace hb := Lib.hid hb
              by_cases hd : 48 ≤ b ∧ b ≤ 57
              · obtain ⟨hd1, hd2⟩ := hd
                have hdH := Lib.hid (show isD a by unfold isD; rw [← hb.out]; exact ⟨hd1, hd2⟩)
                have g1 : ¬ (b : Int) < 48 := by omega
                have g2 : ¬ (57 : Int) < (b : Int) := by omega
                have gw : ((b : Int) - 48) % 256 = (b : Int) - 48 := by omega
                have gq : Int.tdiv (-9223372036854775808 + ((b : Int) - 48)) 10 = -((9223372036854775808 - ((b : Int) - 48)) / 10) := by
                  rw [show (-9223372036854775808 + ((b : Int) - 48)) = -(9223372036854775808 - ((b : Int) - 48)) from by omega, Int.neg_tdiv, Int.tdiv_eq_ediv_of_nonneg (by omega)]
                by_cases hbg : 9223372036854775808 < 10 * m + (b - 48)
                · have hno := Lib.hid (show ∀ n, least ≤ n → n ≤ most → t.data.toList = Lib.itoa n → False from fun n a1 b1 h => mag_big (hmag.out n a1 b1 h) hIH.out hat.out (by rw [← hb.out]; exact hbg))
                  have q1 : -(m : Int) < -((9223372036854775808 - ((b : Int) - 48)) / 10) := by omega
                  clear hbg
                  go_wp2_with fail
                  go_ret2
                  exact rnum_no' hb0.out hno.out
                · have q1 : ¬ -(m : Int) < -((9223372036854775808 - ((b : Int) - 48)) / 10) := by omega
                  have hs1 := Lib.hid (ninv_step hIH.out hat.out hdH.out (by rw [← hb.out]; omega))
                  rw [← hb.out] at hs1
                  have gs := Lib.hid (show -(((10 * m + (b - 48) : Nat)) : Int) = -(m : Int) * 10 - ((b : Int) - 48) by omega)
                  clear hbg
                  go_wp2_with fail
                  go_roundg (t.size - (k + 1))
                  case measure => omega
                  case rel => exact ⟨k + 1, _, rfl, by rw [gs.out], by go_num, hs1.out, rfl⟩
              · have hdH := Lib.hid (show ¬ isD a by unfold isD; rw [← hb.out]; exact hd)
                have hno := Lib.hid (show ∀ n, least ≤ n → n ≤ most → t.data.toList = Lib.itoa n → False from fun n a1 b1 h => mag_nod (hmag.out n a1 b1 h) hat.out hdH.out)
                by_cases g1 : (b : Int) < 48
                · clear hd
                  go_wp2_with fail
                  go_ret2
                  exact rnum_no' hb0.out hno.out
                · have g2 : (57 : Int) < (b : Int) := by omega
                  clear hd
                  go_wp2_with fail
                  go_ret2
                  exact rnum_no' hb0.out hno.out
            · have hkn' : k = t.size := by omega
              subst hkn'
              have hki : ¬ (t.size : Int) < (t.size : Int) := by omega
              have hend := Lib.hid (show ∀ n, least ≤ n → n ≤ most → t.data.toList = Lib.itoa n → n = (m : Int) ∧ (m ≤ 9223372036854775807) from fun n a1 b1 h => by
                have := mag_end (hmag.out n a1 b1 h) (by rw [hul.out]; exact hIH.out)
                exact ⟨this.1, by exact this.2 rfl⟩)
              by_cases h63 : m = 9223372036854775808
              · have hno := Lib.hid (show ∀ n, least ≤ n → n ≤ most → t.data.toList = Lib.itoa n → False from fun n a1 b1 h => by have := (hend.out n a1 b1 h).2; omega)
                have q63 : (-(m : Int) == -9223372036854775808) = true := by rw [beq_iff_eq]; omega
                clear h63
                go_wp2_with fail
                go_ret2
                exact rnum_no' hb0.out hno.out
              · have q63 : (-(m : Int) == -9223372036854775808) = false := by rw [beq_eq_false_iff_ne]; omega
                obtain ⟨N, hN⟩ : ∃ N : Int, N = (m : Int) := ⟨_, rfl⟩
                have hNe := Lib.hid (show ∀ n, least ≤ n → n ≤ most → t.data.toList = Lib.itoa n → n = N from fun n a1 b1 h => by rw [hN]; exact (hend.out n a1 b1 h).1)
                have hN0 : -9223372036854775808 ≤ N := by omega
                have hN1 : N ≤ 9223372036854775807 := by omega
                have hmN : -(m : Int) = -N := by omega
                rw [hmN] at q63 ⊢
                replace hN := Lib.hid hN
                clear hmag h63 hmN
                have CD := fun (y : Lat wr) => Lib.hid (digits_c N hN0 hN1 y.val)
                have l1' := l1.out
                by_cases hit : t.data.toList = Lib.itoa N
                · have q1 : (Lib.itoa N == t.toList) = true := by rw [ByteArray.toList_eq, hit]; simp
                  by_cases hl : N < least
                  · have hno := Lib.hid (show ∀ n, least ≤ n → n ≤ most → t.data.toList = Lib.itoa n → False from fun n a1 b1 h => by have := hNe.out n a1 b1 h; omega)
                    go_upto_region 20 with fail
                    refine wp_region_lat (by kernel_rfl) (by kernel_rfl) ?_
                    repeat (go_big_quiet_step ((go_at_call 59; exact lat_of (CD _).out)))
                    refine wpQuiet_nil ?_
                    intro _ hw'
                    obtain ⟨xl, hw''⟩ := hw'
                    subst hw''
                    have hbx := Lib.hid xl.below
                    go_wp2_with fail
                    go_ret2
                    exact rnum_no' (hb0.out.trans (hbx.out.mono hb0.out.size)) hno.out
                  · by_cases hm : most < N
                    · have hno := Lib.hid (show ∀ n, least ≤ n → n ≤ most → t.data.toList = Lib.itoa n → False from fun n a1 b1 h => by have := hNe.out n a1 b1 h; omega)
                      go_upto_region 20 with fail
                      refine wp_region_lat (by kernel_rfl) (by kernel_rfl) ?_
                      repeat (go_big_quiet_step ((go_at_call 59; exact lat_of (CD _).out)))
                      refine wpQuiet_nil ?_
                      intro _ hw'
                      obtain ⟨xl, hw''⟩ := hw'
                      subst hw''
                      have hbx := Lib.hid xl.below
                      go_wp2_with fail
                      go_ret2
                      exact rnum_no' (hb0.out.trans (hbx.out.mono hb0.out.size)) hno.out
                    ·
                      go_upto_region 20 with fail
                      refine wp_region_lat (by kernel_rfl) (by kernel_rfl) ?_
                      repeat (go_big_quiet_step ((go_at_call 59; exact lat_of (CD _).out)))
                      refine wpQuiet_nil ?_
                      intro _ hw'
                      obtain ⟨xl, hw''⟩ := hw'
                      subst hw''
                      have hbx := Lib.hid xl.below
                      go_wp2_with fail
                      go_ret2
                      exact ⟨N, 0, rfl, .inl rfl, fun _ => ⟨by omega, by omega⟩, fun n a1 b1 _ _ h => ⟨rfl, (hNe.out n a1 b1 h).symm⟩, hb0.out.trans (hbx.out.mono hb0.out.size)⟩
                · have q1 : (Lib.itoa N == t.toList) = false := by
                    rw [ByteArray.toList_eq, beq_eq_false_iff_ne]
                    exact fun e => hit e.symm
                  have hno := Lib.hid (show ∀ n, least ≤ n → n ≤ most → t.data.toList = Lib.itoa n → False from fun n a1 b1 h => by have := hNe.out n a1 b1 h; subst this; exact hit h)
                  go_upto_region 20 with fail
                  refine wp_region_lat (by kernel_rfl) (by kernel_rfl) ?_
                  repeat (go_big_quiet_step ((go_at_call 59; exact lat_of (CD _).out)))
                  refine wpQuiet_nil ?_
                  intro _ hw'
                  obtain ⟨xl, hw''⟩ := hw'
                  subst hw''
                  have hbx := Lib.hid xl.below
                  go_wp2_with fail
                  go_ret2
                  exact rnum_no' (hb0.out.trans (hbx.out.mono hb0.out.size)) hno.out
end Go.Proofs.YtbefkoljcacpcaaGreatDoor.Tm
