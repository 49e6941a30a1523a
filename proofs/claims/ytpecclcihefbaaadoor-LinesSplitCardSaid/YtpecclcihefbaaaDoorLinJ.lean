/- The walk of LinesJoin. -/
import Derived.Test.YtpecclcihefbaaaDoorLinA
import Derived.Test.YtpecclcihefbaaaDoorRd
import Derived.Deep.LoopGhost
set_option linter.unusedVariables false
set_option linter.unusedSimpArgs false
namespace Go.Proofs.YtpecclcihefbaaaDoor.Lin
open Go Go.RowKit Go.Proofs.YtpecclcihefbaaaDoor.B Go.Proofs.YtpecclcihefbaaaDoorW.PrintWords

/-- A slice that was opened, in the words of the printed contracts. -/
theorem C_of_sl {α : Type} {size : Nat} {R : Rd.Rel α} {d : Kd α} {w : World} {A : Option Addr} {n c : Nat} {xs : List α} (hs : d.sz = size) (hp : 0 < size) (hR : ∀ cs x, R w cs x → d.K w x cs) (h : Rd.RSl size R w [.slice A n c] xs) : Kd.C d w A n xs ∧ n ≤ c := by
  obtain ⟨h1, h2, h3, h4⟩ := Rd.sl_at h
  subst h1
  have hl : xs.length ≤ 9223372036854775807 := by omega
  refine ⟨⟨rfl, hl, fun h0 => ?_⟩, h2⟩
  obtain ⟨b, off, rfl, hc⟩ := h4 h0
  refine ⟨_, rfl, fun j p hj => ?_⟩
  obtain ⟨hjl, hjp⟩ := List.getElem?_eq_some_iff.1 hj
  obtain ⟨es, e1, e2, e3⟩ := hc j hjl
  rw [hjp] at e3
  refine ⟨es, e1.trans hs.symm, hR _ _ e3, fun i u hu => ?_⟩
  have hi := (List.getElem?_eq_some_iff.1 hu).1
  rw [hs, add_plain, show off + (j * size + i) = off + j * size + i from by omega, e2 i (by omega)]
  exact hu
theorem C_str_of_sl {w : World} {A : Option Addr} {n c : Nat} {xs : List ByteArray} (h : Rd.RSl 1 Rd.RStr w [.slice A n c] xs) : Kd.C Kd.string w A n xs ∧ n ≤ c :=
  C_of_sl (size := 1) rfl Nat.one_pos (fun _ _ hr => hr.1) h
theorem sizes_of_sl {w : World} {A : Option Addr} {n c : Nat} {xs : List ByteArray} (h : Rd.RSl 1 Rd.RStr w [.slice A n c] xs) : ∀ x ∈ xs, x.size ≤ 140737488351232 := by
  obtain ⟨h1, h2, h3, h4⟩ := Rd.sl_at h
  intro x hx
  obtain ⟨i, hi, rfl⟩ := List.mem_iff_getElem.1 hx
  obtain ⟨b, off, _, hc⟩ := h4 (by omega)
  obtain ⟨es, _, _, e3⟩ := hc i hi
  exact e3.2

theorem sameRef (A0 A1 : Option Addr) (n0 c0 n1 c1 : Nat) (l0 l1 : List ByteArray) (w : World) (h0 : Kd.C Kd.string w A0 n0 l0) (k0 : n0 ≤ c0) (h1 : Kd.C Kd.string w A1 n1 l1) (k1 : n1 ≤ c1) :
    Calls Tryd.prog 12 #[.slice A0 n0 c0, .slice A1 n1 c1] w fun e w' => e = .returned (.bool (decide (l0 = l1))) ∧ Drawn0 w w' := by
  obtain rfl := h0.1
  obtain rfl := h1.1
  exact PSame.tambourref01_Same.calls (l0.length + 1) A0 c0 l0 A1 c1 l1 _ w h0 k0 h1 k1 (same_f l0 l1 h0.2.1)
theorem joinRef (A : Option Addr) (n c : Nat) (l : List ByteArray) (w : World) (h : Kd.C Kd.string w A n l) (k : n ≤ c) (hx : (jn (ls l)).length ≤ 4000000000000000000) (hn : n ≤ 4000000000000000000) :
    Calls Tryd.prog 11 #[.slice A n c] w fun e w' => e = .returned (.string (bs (jn (ls l)))) ∧ Drawn0 w w' := by
  obtain rfl := h.1
  exact PJoin.tambourref01_Join.calls (l.length + 1) A c l _ w h k (join_f l hx hn)

def pl1 (s : List UInt8) : Bool := (s.take 20001).all (· != 10)
def pl (l : List ByteArray) : Bool := l.all fun s => pl1 s.data.toList
/-- How many bytes. -/
def tot : List ByteArray → Nat
  | [] => 0
  | s :: l => s.size + tot l
theorem tot_snoc (l : List ByteArray) (s : ByteArray) : tot (l ++ [s]) = tot l + s.size := by
  induction l with
  | nil => simp [tot]
  | cons a l ih => simp only [List.cons_append, tot, ih]; omega
theorem tot_le (l : List ByteArray) (h : ∀ x ∈ l, x.size ≤ 140737488351232) : tot l ≤ l.length * 140737488351232 := by
  induction l with
  | nil => simp [tot]
  | cons a l ih =>
    have h1 := h a (by simp)
    have h2 := ih fun x hx => h x (by simp [hx])
    simp only [tot, List.length_cons]
    omega
theorem tot_mem {l : List ByteArray} {x : ByteArray} (h : x ∈ l) : x.size ≤ tot l := by
  induction l with
  | nil => cases h
  | cons a l ih =>
    simp only [tot]
    rcases List.mem_cons.1 h with rfl | h
    · omega
    · have := ih h; omega
theorem jn_tot (l : List ByteArray) : (jn (ls l)).length ≤ tot l + l.length := by
  induction l with
  | nil => simp [jn, ls, tot]
  | cons a l ih =>
    cases l with
    | nil => simp [jn, ls, tot, size_list]
    | cons b l =>
      have e : ls (a :: b :: l) = a.data.toList :: ls (b :: l) := rfl
      rw [e, jn_cons _ (by simp [ls]), List.length_append, List.length_cons, size_list]
      simp only [tot, List.length_cons] at ih ⊢
      omega
theorem take_next {α : Type} (l : List α) (k : Nat) (d : α) (h : k < l.length) : l.take (k + 1) = l.take k ++ [l.getD k d] := by
  rw [List.take_add_one, List.getD_eq_getElem?_getD, List.getElem?_eq_getElem h]; rfl
theorem pl_snoc (l : List ByteArray) (s : ByteArray) : pl (l ++ [s]) = (pl l && pl1 s.data.toList) := by simp [pl, List.all_append]
theorem getD_mem {α : Type} (l : List α) (k : Nat) (d : α) (h : k < l.length) : l.getD k d ∈ l := by
  rw [List.getD_eq_getElem?_getD, List.getElem?_eq_getElem h]; exact List.getElem_mem h


theorem wrap_sum (a b : Int) : ∃ z : Int, wrap64 (a + b) = z := ⟨_, rfl⟩
theorem cnt_next {z : Int} {a b : Nat} (hz : z = a) (ha : a ≤ 1000 * 140737488351232) (hb : b ≤ 140737488351232) : wrap64 (z + b) = ((a + b : Nat) : Int) := by subst hz; unfold wrap64; omega
/-- What the first loop knows of the count: exact as long as the lines are few. -/
def CntIs (m k : Nat) (l : List ByteArray) (v : Value) : Prop := ∃ z : Int, v = .int .i64 z ∧ (m ≤ 1000 → z = (tot (l.take k) : Int))

set_option maxRecDepth 100000 in
set_option maxHeartbeats 1000000 in
theorem join_walk (A : Option Addr) (c : Nat) (l : List ByteArray) (w : World) (hm : MaxL w) (hC : Kd.C Kd.string w A l.length l) (hc : l.length ≤ c) (hs : ∀ x ∈ l, x.size ≤ 140737488351232) (hn : l.length ≤ 140737488351232) :
    Calls Tryd.prog 3 #[.slice A l.length c] w fun e w' => e = .returned (.bool true) ∧ Below w.heap.size w w' := by
  have C0 := Lib.hid (awake01 w hm)
  have hCH := Lib.hid hC
  have hsH := Lib.hid hs
  have hcH := Lib.hid hc
  clear hC hs
  obtain ⟨N, hN⟩ : ∃ N, N = l.length := ⟨_, rfl⟩
  rw [← hN] at hCH hcH hc hn ⊢
  replace hN := Lib.hid hN
  go_enter Tryd.func3, Tryd.ntmps3
  go_wp2_with fail
  refine (C0.out).mono ?_
  rintro e w1 ⟨rfl, hb1⟩
  replace hb1 := Lib.hid hb1
  go_wp2_with fail
  go_loopg [3, 4, 16] N (fun g n b i W => ∃ k : Nat, g = N - k ∧ k ≤ N ∧ i = .int .i64 k ∧ CntIs N k l n ∧ b = .bool (decide (0 < N) && pl (l.take k)) ∧ w1 = W)
  case atStart => exact ⟨0, rfl, by omega, rfl, ⟨0, rfl, fun _ => by simp [tot]⟩, by simp [pl], rfl⟩
  case round =>
    obtain ⟨k, hg, hk, rfl, ⟨z, rfl, hz⟩, rfl, rfl⟩ := hrel
    subst hg
    by_cases hkl : k < N
    · have hki : (k : Int) < (N : Int) := by omega
      obtain ⟨b, o, rfl, hcell⟩ := C_cell (Kd.C_below hCH.out hb1.out) k hkl
      have hx : (l.getD k ByteArray.empty).size ≤ 140737488351232 := hsH.out _ (getD_mem l k _ (by rw [← hN.out]; exact hkl))
      have hnext := Lib.hid (take_next l k ByteArray.empty (by rw [← hN.out]; exact hkl))
      generalize l.getD k ByteArray.empty = x at *
      obtain ⟨p0, hp0⟩ : ∃ p0, p0 = (decide (0 < N) && pl (l.take k)) := ⟨_, rfl⟩
      rw [← hp0]
      replace hp0 := Lib.hid hp0
      replace hz := Lib.hid hz
      go_wp2_with fail
      obtain ⟨M, hM⟩ : ∃ M, M = min x.size 20001 := ⟨_, rfl⟩
      have hM1 : M ≤ x.size := by omega
      have hM2 : M ≤ 20001 := by omega
      go_loopg [4, 7] M (fun g b i W => ∃ j : Nat, g = M - j ∧ j ≤ M ∧ i = .int .i64 j ∧ b = .bool (p0 && (x.data.toList.take j).all (· != 10)) ∧ w1 = W)
      case atStart => exact ⟨0, rfl, by omega, rfl, by simp, rfl⟩
      case round =>
        obtain ⟨j, hg, hj, rfl, rfl, rfl⟩ := hrel
        subst hg
        by_cases hjl : j < M
        · have q1 : (j : Int) < (x.size : Int) := by omega
          have q2 : (j : Int) < 20001 := by omega
          have hnx := take_next x.data.toList j 0 (by rw [size_list]; omega)
          have hall : (x.data.toList.take (j + 1)).all (· != 10) = ((x.data.toList.take j).all (· != 10) && (x.data.toList.getD j 0 != 10)) := by rw [hnx]; simp [List.all_append]
          have hbyte : x.data.toList.getD j 0 = x[j]'(by omega) := by
            rw [List.getD_eq_getElem?_getD, List.getElem?_eq_getElem (by rw [size_list]; omega)]; rfl
          rw [hbyte] at hall
          obtain ⟨b1, hb1'⟩ : ∃ b1, b1 = (p0 && (x.data.toList.take j).all (· != 10)) := ⟨_, rfl⟩
          rw [← hb1']
          have hres : (p0 && (x.data.toList.take (j + 1)).all (· != 10)) = (b1 && (x[j]'(by omega) != 10)) := by rw [hall, hb1', Bool.and_assoc]
          replace hres := Lib.hid hres
          have hne : (((x[j]'(by omega)).toNat : Int) != 10) = (x[j]'(by omega) != 10) := by
            rw [Bool.eq_iff_iff, bne_iff_ne, bne_iff_ne]; exact not_congr (byte_10 _)
          replace hne := Lib.hid hne
          clear hnx hall hbyte hb1'
          cases b1
          · go_wp2_with fail
            go_roundg (M - (j + 1))
            case measure => omega
            case rel => exact ⟨j + 1, rfl, by omega, by go_num, by rw [hres.out]; rfl, rfl⟩
          · go_wp2_with fail
            go_roundg (M - (j + 1))
            case measure => omega
            case rel => exact ⟨j + 1, rfl, by omega, by go_num, by rw [hres.out, ← hne.out]; rfl, rfl⟩
        · have hjM : j = M := by omega
          subst hjM
          have hfin : (p0 && (x.data.toList.take j).all (· != 10)) = (p0 && pl1 x.data.toList) := by
            congr 1
            unfold pl1
            by_cases h2 : x.size ≤ 20001
            · rw [List.take_of_length_le (by rw [size_list]; omega), List.take_of_length_le (by rw [size_list]; omega)]
            · rw [show j = 20001 from by omega]
          rw [hfin]
          have hrel2 : CntIs N (k + 1) l (.int .i64 (wrap64 (z + x.size))) := ⟨_, rfl, fun h => by
            have e := hz.out h
            have hb := tot_le (l.take k) (fun y hy => hsH.out y (List.mem_of_mem_take hy))
            rw [List.length_take] at hb
            have h4 : min k l.length ≤ 1000 := by have := hN.out; omega
            rw [hnext.out, tot_snoc]
            exact cnt_next e (Nat.le_trans hb (Nat.mul_le_mul_right 140737488351232 h4)) hx⟩
          have hpl : (p0 && pl1 x.data.toList) = (decide (0 < N) && pl (l.take (k + 1))) := by rw [hp0.out, hnext.out, pl_snoc, Bool.and_assoc]
          replace hpl := Lib.hid hpl
          replace hrel2 := Lib.hid hrel2
          clear hfin
          by_cases h20 : x.size ≤ 20001
          · have q1 : ¬ (j : Int) < (x.size : Int) := by omega
            clear hM hM1 hM2 h20
            go_wp2_with fail
            go_roundg (N - (k + 1))
            case measure => omega
            case rel => exact ⟨k + 1, rfl, by omega, by go_num, hrel2.out, by rw [hpl.out], rfl⟩
          · have q1 : (j : Int) < (x.size : Int) := by omega
            have q2 : ¬ (j : Int) < 20001 := by omega
            clear hM hM1 hM2 h20
            go_wp2_with fail
            go_roundg (N - (k + 1))
            case measure => omega
            case rel => exact ⟨k + 1, rfl, by omega, by go_num, hrel2.out, by rw [hpl.out], rfl⟩
    · have hkN : k = N := by omega
      subst hkN
      have hki : ¬ (k : Int) < (k : Int) := by omega
      have htk : l.take k = l := List.take_of_length_le (by have := hN.out; omega)
      rw [htk] at hz ⊢
      obtain ⟨q0, hq0⟩ : ∃ q0, q0 = (decide (0 < k) && pl l) := ⟨_, rfl⟩
      rw [← hq0]
      replace hq0 := Lib.hid hq0
      replace hz := Lib.hid hz
      by_cases h1 : 1000 < k
      · have h1i : (1000 : Int) < (k : Int) := by omega
        go_wp2_with fail
        go_ret
        exact ⟨rfl, hb1.out⟩
      · have h1i : ¬ (1000 : Int) < (k : Int) := by omega
        have hze := hz.out (by omega)
        subst hze
        by_cases h2 : 20000 < tot l
        · have h2i : (20000 : Int) < (tot l : Int) := by omega
          go_wp2_with fail
          go_ret
          exact ⟨rfl, hb1.out⟩
        · have h2i : ¬ (20000 : Int) < (tot l : Int) := by omega
          go_wp2_with fail
          have hlen : (jn (ls l)).length ≤ 21000 := by
            have := jn_tot l
            have := hN.out
            omega
          have CJ := Lib.hid (fun W (hW : Kd.C Kd.string W A k l) => Join_any A k c l W hW hcH.out (by omega) (by omega))
          have CR := Lib.hid (fun W (hW : Kd.C Kd.string W A k l) => joinRef A k c l W hW hcH.out (by omega) (by omega))
          refine (CJ.out _ (Kd.C_below hCH.out hb1.out)).mono ?_
          rintro e w2 ⟨rfl, hb2⟩
          replace hb1 := Lib.hid (Below.tr hb1.out hb2)
          clear hb2
          go_wp2_with fail
          refine (CR.out _ (Kd.C_below hCH.out hb1.out)).mono ?_
          rintro e w3 ⟨rfl, hd⟩
          replace hb1 := Lib.hid (Below.tr hb1.out (below_drawn hd))
          clear hd
          cases q0
          · go_wp2_with fail
            go_ret
            exact ⟨rfl, hb1.out⟩
          · have hq := hq0.out.symm
            simp only [Bool.and_eq_true, decide_eq_true_eq] at hq
            obtain ⟨hk0, hpl⟩ := hq
            have hsp : (spl (jn (ls l))).map bs = l := by
              rw [spl_jn, bs_ls]
              · intro he
                have := congrArg List.length he
                simp [ls] at this
                have := hN.out
                simp_all
              · intro y hy c' hc'
                simp only [ls, List.mem_map] at hy
                obtain ⟨s, hs, rfl⟩ := hy
                have h3 := List.all_eq_true.1 hpl s hs
                unfold pl1 at h3
                have h4 := tot_mem hs
                rw [List.take_of_length_le (by rw [size_list]; omega)] at h3
                simpa using List.all_eq_true.1 h3 c' hc'
            have CS := Lib.hid (fun W hW => Split_any (bs (jn (ls l))) W hW (by rw [bs_size]; omega))
            have CM := Lib.hid (fun (A' : Option Addr) (n' c' : Nat) W (h1 : Kd.C Kd.string W A' n' ((spl (bs (jn (ls l))).data.toList).map bs)) (h2 : n' ≤ c') (h3 : Kd.C Kd.string W A k l) => sameRef A' A n' c' k c _ l W h1 h2 h3 hcH.out)
            rw [bs_data, hsp] at CM
            simp only [decide_true] at CM
            unfold SplitPost at CS
            rw [bs_data, hsp] at CS
            generalize bs (jn (ls l)) = T at *
            clear hk0 hpl hsp
            go_wp2_with fail
            refine (CS.out _ (hm.below hb1.out)).mono ?_
            rintro e w4 ⟨b4, n4, c4, rfl, -, hc4', hC4, hb4⟩
            have hc4 := Nat.le_of_eq hc4'
            clear hc4'
            replace hb1 := Lib.hid (Below.tr hb1.out hb4)
            replace hC4 := Lib.hid hC4
            clear hb4
            go_wp2_with fail
            refine (CM.out _ _ _ _ hC4.out hc4 (Kd.C_below hCH.out hb1.out)).mono ?_
            rintro e w5 ⟨rfl, hd⟩
            replace hb1 := Lib.hid (Below.tr hb1.out (below_drawn hd))
            clear hd
            go_wp2_with fail
            go_ret
            exact ⟨rfl, hb1.out⟩

set_option maxRecDepth 100000 in
theorem join_any {H : Type} {enc : TypeId × Value → H} (v : Value) {d : DataW H} {p : List MemPlace} (w : World) {base : Nat} (hm : MaxL w)
    (hv : Value.okWide Tryd.prog w .any base 22 v) (h : DataW.Trod enc Tryd.prog w 0 (fun _ => true) true 22 v d p) (hw : ∀ n ∈ d.weights Tryd.prog 22, n ≤ reachBytes) :
    Calls Tryd.prog 3 #[v] w fun e w' => e = .returned (.bool true) ∧ Below w.heap.size w w' := by
  obtain ⟨xs, hx⟩ := Rd.open_sl_arg Tryd.underlying22 hv (Rd.opens_sl (size := 1) Tryd.underlying22 (by kernel_rfl) (by omega) (of_decide_eq_true (by kernel_rfl)) (Rd.opens_str Tryd.underlying9)) h hw
  obtain ⟨A, c, rfl⟩ := Rd.sl_form hx
  obtain ⟨hC, hc⟩ := C_str_of_sl hx
  have h3 := (Rd.sl_at hx).2.2.1
  exact join_walk A c xs w hm hC hc (sizes_of_sl hx) (by omega)

end Go.Proofs.YtpecclcihefbaaaDoor.Lin
