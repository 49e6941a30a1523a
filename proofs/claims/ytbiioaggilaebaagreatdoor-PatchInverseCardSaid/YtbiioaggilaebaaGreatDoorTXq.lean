/- What LawPatchInverse lean on, part q of 29: the texts PaM, PcI, PaA, PaW, PaY, PaC. -/
import Derived.Test.YtbiioaggilaebaaGreatDoorTX0
import Derived.Test.YtbiioaggilaebaaGreatDoorTXd
import Derived.Test.YtbiioaggilaebaaGreatDoorTXe
import Derived.Test.YtbiioaggilaebaaGreatDoorTXn
import Derived.Test.YtbiioaggilaebaaGreatDoorTXp
import Derived.LoopTactic
import Derived.IntWalk
import Derived.Lib.IndexAny
import Derived.Deep.LoopGhost
set_option linter.all false
set_option maxRecDepth 100000
set_option maxHeartbeats 16000000
namespace Go.Proofs.YtbiioaggilaebaaGreatDoor.Pa
open Go Go.RowKit YtbiioaggilaebaaGreatDoorW.PrintWords B Tm Wi
def opCells (o : Op) (L : Option Addr) (c : Nat) : Array Value := #[.int .i64 o.k, .int .i64 o.a, .int .i64 o.m, .int .i64 o.b, .int .i64 o.n, .slice L o.ls.length c]
def TxAt (w : World) (A : Option Addr) (c : Nat) (l : List ByteArray) : Prop := Kd.C Kd.string w A l.length l /\ l.length <= c /\ l.length <= 140737488351232 /\ ∀ x ∈ l, x.size <= 140737488351232
theorem TxAt.below {w w' : World} {A : Option Addr} {c : Nat} {l : List ByteArray} (h : TxAt w A c l) (hb : Below w.heap.size w w') : TxAt w' A c l := ⟨Kd.C_below h.1 hb, h.2⟩
def OpsAt (w : World) (A : Option Addr) (c : Nat) (l : List Op) : Prop := l.length <= c /\ l.length <= 140737488351232 /\
 (0 < l.length -> ∃ b o, A = some ⟨b, o, none⟩ /\ ∀ j (h : j < l.length), ∃ L cl, (∀ i, i < 6 -> w.cell? ⟨b, o + j * 6 + i, none⟩ = (opCells l[j] L cl)[i]?) /\ TxAt w L cl l[j].ls)
theorem opCells_some (o : Op) (L : Option Addr) (c i : Nat) (h : i < 6) : ∃ v, (opCells o L c)[i]? = some v := ⟨(opCells o L c)[i]'(by show i < 6; exact h), Array.getElem?_eq_getElem _⟩
theorem OpsAt.below {w w' : World} {A : Option Addr} {c : Nat} {l : List Op} (h : OpsAt w A c l) (hb : Below w.heap.size w w') : OpsAt w' A c l := by
 obtain ⟨h1, h2, h3⟩ := h
 refine ⟨h1, h2, fun h0 => ?_⟩
 obtain ⟨b, o, e, hj⟩ := h3 h0
 refine ⟨b, o, e, fun j hjl => ?_⟩
 obtain ⟨L, cl, hc, ht⟩ := hj j hjl
 refine ⟨L, cl, fun i hi => ?_, ht.below hb⟩
 obtain ⟨v, hv⟩ := opCells_some l[j] L cl i hi
 have := hc i hi
 rw [hv] at this ⊢
 exact (hb.cell (World.block_lt_of_cell? w _ this)).trans this
theorem OpsAt.get {w : World} {A : Option Addr} {c : Nat} {l : List Op} (h : OpsAt w A c l) (j : Nat) (o : Op) (hj : l[j]? = some o) : ∃ b of L cl, A = some ⟨b, of, none⟩ /\
 w.cell? ⟨b, of + j * 6, none⟩ = some (.int .i64 o.k) /\ w.cell? ⟨b, of + j * 6 + 1, none⟩ = some (.int .i64 o.a) /\ w.cell? ⟨b, of + j * 6 + 2, none⟩ = some (.int .i64 o.m) /\
 w.cell? ⟨b, of + j * 6 + 3, none⟩ = some (.int .i64 o.b) /\ w.cell? ⟨b, of + j * 6 + 4, none⟩ = some (.int .i64 o.n) /\ w.cell? ⟨b, of + j * 6 + 5, none⟩ = some (.slice L o.ls.length cl) /\ TxAt w L cl o.ls := by
 obtain ⟨hl, rfl⟩ := List.getElem?_eq_some_iff.1 hj
 obtain ⟨_, _, h3⟩ := h
 obtain ⟨b, of, e, hjj⟩ := h3 (by omega)
 obtain ⟨L, cl, hc, ht⟩ := hjj j hl
 exact ⟨b, of, L, cl, e, hc 0 (by omega), hc 1 (by omega), hc 2 (by omega), hc 3 (by omega), hc 4 (by omega), hc 5 (by omega), ht⟩
end Go.Proofs.YtbiioaggilaebaaGreatDoor.Pa
namespace Go.Proofs.YtbiioaggilaebaaGreatDoor.Pa
open Go Go.RowKit B Tm Wi
def dels (n : Int) (c : Nat) : List Op := (List.range c).map fun (i : Nat) => ⟨4, -2, n - 1 - (i : Int), 0, 0, []⟩
def stepI (n : Int) (o : Op) : List Op := if o.k = 1 then dels n o.ls.length else if o.k = 2 \/ o.k = 3 then [⟨5 - o.k, o.a, o.m, o.b, o.n, []⟩] else [⟨9 - o.k, o.a, o.m, o.b, o.n, []⟩]
def binv : Int -> List Op -> List Op
 | _, [] => []
 | n, o :: l => stepI n o ++ binv (n - mk1 o) l
theorem dels_succ (n : Int) (c : Nat) : dels n (c + 1) = dels n c ++ [⟨4, -2, n - 1 - (c : Int), 0, 0, []⟩] := by unfold dels; rw [List.range_succ, List.map_append]; rfl
theorem dels_len (n : Int) (c : Nat) : (dels n c).length = c := by unfold dels; rw [List.length_map, List.length_range]
theorem binv_snoc (o : Op) : ∀ (l : List Op) (n : Int), binv n (l ++ [o]) = binv n l ++ stepI (n - made l) o
 | [], n => by
  rw [List.nil_append, binv, binv, binv, made_nil, List.append_nil, List.nil_append]
  simp
 | p :: l, n => by
  rw [List.cons_append, binv, binv, binv_snoc o l, made_cons, List.append_assoc]
  congr 3
  omega
theorem stepI_len (n : Int) (o : Op) : (stepI n o).length <= mk1 o + 1 := by
 unfold stepI mk1
 split
 . rw [dels_len]; omega
 . split <;> simp
theorem binv_len : ∀ (l : List Op) (n : Int), (binv n l).length <= made l + l.length
 | [], n => by rw [binv]; simp
 | o :: l, n => by
  rw [binv, List.length_append, made_cons, List.length_cons]
  have := stepI_len n o
  have := binv_len l (n - mk1 o)
  omega
theorem made_le (l : List Op) (m : Nat) (h : ∀ o ∈ l, mk1 o <= m) : made l <= l.length * m := by
 induction l with
 | nil => rw [made_nil]; omega
 | cons o l ih =>
  rw [made_cons, List.length_cons, Nat.add_mul]
  have := h o (by simp)
  have := ih (fun x hx => h x (by simp [hx]))
  omega
end Go.Proofs.YtbiioaggilaebaaGreatDoor.Pa
namespace Go.Proofs.YtbiioaggilaebaaGreatDoor.Pa
open Go Go.RowKit YtbiioaggilaebaaGreatDoorW.PrintWords B Tm Wi
open Lin (mrk markerRef)
theorem ref_cases (own deps t n : Int) : (t = -1 /\ n = 0 /\ refOk own deps t n = true) \/ (t = -1 /\ n = 1 /\ refOk own deps t n = true) \/ (t = -1 /\ (n == 0) = false /\ (n == 1) = false /\ refOk own deps t n = false) \/
 (t = -2 /\ n < 0 /\ refOk own deps t n = false) \/ (t = -2 /\ 0 <= n /\ own <= n /\ refOk own deps t n = false) \/ (t = -2 /\ 0 <= n /\ n < own /\ refOk own deps t n = true) \/
 ((t == -1) = false /\ (t == -2) = false /\ ((t < 0 /\ refOk own deps t n = false) \/ (0 <= t /\ deps <= t /\ refOk own deps t n = false) \/ (0 <= t /\ t < deps /\ n < 0 /\ refOk own deps t n = false) \/ (0 <= t /\ t < deps /\ 0 <= n /\ 300 <= n /\ refOk own deps t n = false) \/ (0 <= t /\ t < deps /\ 0 <= n /\ n < 300 /\ refOk own deps t n = true))) := by
 by_cases h1 : t = -1
 . subst h1
   by_cases h2 : n = 0
   . exact .inl ⟨rfl, h2, by simp [refOk, h2]⟩
   . by_cases h3 : n = 1
     . exact .inr (.inl ⟨rfl, h3, by simp [refOk, h3]⟩)
     . exact .inr (.inr (.inl ⟨rfl, by simpa using h2, by simpa using h3, by simp [refOk, h2, h3]⟩))
 . by_cases h2 : t = -2
   . subst h2
     have R : refOk own deps (-2) n = decide (0 <= n /\ n < own) := by unfold refOk; rw [if_neg (by decide), if_pos rfl]
     rw [R]
     by_cases h3 : n < 0
     . exact .inr (.inr (.inr (.inl ⟨rfl, h3, decide_eq_false (by omega)⟩)))
     . by_cases h4 : n < own
       . exact .inr (.inr (.inr (.inr (.inr (.inl ⟨rfl, by omega, h4, decide_eq_true (by omega)⟩)))))
       . exact .inr (.inr (.inr (.inr (.inl ⟨rfl, by omega, by omega, decide_eq_false (by omega)⟩))))
   . have R : refOk own deps t n = decide (0 <= t /\ t < deps /\ 0 <= n /\ n < 300) := by unfold refOk; rw [if_neg h1, if_neg h2]
     rw [R]
     refine .inr (.inr (.inr (.inr (.inr (.inr ⟨by simpa using h1, by simpa using h2, ?_⟩)))))
     by_cases a : t < 0
     . exact .inl ⟨a, decide_eq_false (by omega)⟩
     . by_cases b : t < deps
       . by_cases c : n < 0
         . exact .inr (.inr (.inl ⟨by omega, b, c, decide_eq_false (by omega)⟩))
         . by_cases d : n < 300
           . exact .inr (.inr (.inr (.inr ⟨by omega, b, by omega, d, decide_eq_true (by omega)⟩)))
           . exact .inr (.inr (.inr (.inl ⟨by omega, b, by omega, by omega, decide_eq_false (by omega)⟩)))
       . exact .inr (.inl ⟨by omega, by omega, decide_eq_false (by omega)⟩)
theorem below2 (w : World) (o p : Obj) : Below w.heap.size w ((w.alloc o).alloc p) := ((Below.refl _ _).alloc (Nat.le_refl _) _).alloc (by simp) _
theorem cref_c (own deps t n : Int) (w : World) : Calls Tryz.prog 114 #[.agg #[.int .i64 own, .int .i64 deps], .agg #[.int .i64 t, .int .i64 n]] w fun e w' => e = .returned (.bool (refOk own deps t n)) /\ Below w.heap.size w w' := by
 rcases ref_cases own deps t n with ⟨rfl, rfl, hb⟩ | ⟨rfl, rfl, hb⟩ | ⟨rfl, h1, h2, hb⟩ | ⟨rfl, h1, hb⟩ | ⟨rfl, h1, h2, hb⟩ | ⟨rfl, h1, h2, hb⟩ | ⟨e1, e2, ⟨h1, hb⟩ | ⟨h1, h2, hb⟩ | ⟨h1, h2, h3, hb⟩ | ⟨h1, h2, h3, h4, hb⟩ | ⟨h1, h2, h3, h4, hb⟩⟩
 all_goals
  rw [hb]
  clear hb
  go_enter Tryz.func114, Tryz.ntmps114
  go_wp2
  go_ret
  first | exact ⟨rfl, below2 _ _ _⟩ | exact ⟨congrArg (fun b => Ending.returned (Value.bool b)) (decide_eq_false (by omega)), below2 _ _ _⟩
theorem rref_c (own deps t n : Int) (w : World) : Calls Tryz.prog 125 #[.agg #[.int .i64 t, .int .i64 n], .int .i64 own, .int .i64 deps] w fun e w' => e = .returned (.bool (refOk own deps t n)) /\ Below w.heap.size w w' := by
 rcases ref_cases own deps t n with ⟨rfl, rfl, hb⟩ | ⟨rfl, rfl, hb⟩ | ⟨rfl, h1, h2, hb⟩ | ⟨rfl, h1, hb⟩ | ⟨rfl, h1, h2, hb⟩ | ⟨rfl, h1, h2, hb⟩ | ⟨e1, e2, ⟨h1, hb⟩ | ⟨h1, h2, hb⟩ | ⟨h1, h2, h3, hb⟩ | ⟨h1, h2, h3, h4, hb⟩ | ⟨h1, h2, h3, h4, hb⟩⟩
 all_goals
  rw [hb]
  clear hb
  go_enter Tryz.func125, Tryz.ntmps125
  go_wp2
  go_ret
  first | exact ⟨rfl, Wi.below_alloc _ _⟩ | exact ⟨congrArg (fun b => Ending.returned (Value.bool b)) (decide_eq_false (by omega)), Wi.below_alloc _ _⟩
theorem rbottom_c (w : World) : Calls Tryz.prog 126 #[] w fun e w' => e = .returned (.agg #[.int .i64 (-1), .int .i64 1]) /\ Below w.heap.size w w' := by
 go_enter Tryz.func126, Tryz.ntmps126
 go_wp2
 go_returns
 exact ⟨rfl, by first | exact below2 _ _ _ | exact Wi.below_alloc _ _⟩
theorem rtop_c (w : World) : Calls Tryz.prog 127 #[] w fun e w' => e = .returned (.agg #[.int .i64 (-1), .int .i64 0]) /\ Below w.heap.size w w' := by
 go_enter Tryz.func127, Tryz.ntmps127
 go_wp2
 go_returns
 exact ⟨rfl, by first | exact below2 _ _ _ | exact Wi.below_alloc _ _⟩
theorem lineOk_in {s : ByteArray} {k : Nat} (hk : k < s.size) (h : s[k] = 10) : lineOk s = false := by
 unfold lineOk
 have : s.data.toList.contains 10 = true := by
  rw [List.contains_iff_mem]
  rw [<- h]
  exact Array.getElem_mem_toList _
 rw [this]
 simp
theorem lineOk_out {s : ByteArray} (h : ∀ k (hk : k < s.size), s[k] ≠ 10) : lineOk s = (decide (s.size <= 500) && !mrk s.data.toList) := by
 unfold lineOk
 have : s.data.toList.contains 10 = false := by
  rw [Bool.eq_false_iff, ne_eq, List.contains_iff_mem]
  intro hm
  obtain ⟨k, hk, e⟩ := List.getElem_of_mem hm
  have e' : s.data[k]'(by simpa using hk) = 10 := by simpa using e
  exact h k (by simpa using hk) e'
 rw [this]
 simp
theorem rline_c (s : ByteArray) (hs : s.size <= 140737488351232) (w : World) : Calls Tryz.prog 128 #[.string s] w fun e w' => e = .returned (.bool (lineOk s)) /\ Below w.heap.size w w' := by
 obtain ⟨r, hr⟩ : ∃ r, r = lineOk s := ⟨_, rfl⟩
 rw [<- hr]
 replace hr := lh hr
 have hM := lh (markerRef s w)
 go_enter Tryz.func128, Tryz.ntmps128
 go_wp2
 go_loop [3] (fun i => ∃ k : Nat, k <= s.size /\ i = .int .i64 k /\ Hid (∀ j (hj : j < s.size), j < k -> s[j] ≠ 10)) (fun i => s.size - (intOf i).toNat)
 case atStart => exact ⟨0, Nat.zero_le _, rfl, lh (fun j _ h => by omega)⟩
 case round =>
  obtain ⟨k, hk, rfl, hno⟩ := hrel
  by_cases hlt : k < s.size
  . by_cases hc : s[k] = 10
    . have hc' : ((s[k].toNat : Int) == 10) = true := by rw [hc]; rfl
      have hrf : Hid (r = false) := lh (hr.out.trans (lineOk_in hlt hc))
      go_wp2_with fail
      go_ret
      exact ⟨by rw [hrf.out]; rfl, Below.refl _ _⟩
    . have hc' : ((s[k].toNat : Int) == 10) = false := by
       rw [beq_eq_false_iff_ne]
       intro e
       exact hc (UInt8.toNat_inj.1 (by rw [show (10 : UInt8).toNat = 10 from rfl]; omega))
      replace hc := lh hc
      go_wp2_with fail
      go_round
      case rel => exact ⟨k + 1, by omega, by go_num, lh (fun j hj hlt' => by
       by_cases e : j = k
       . subst e; exact hc.out
       . exact hno.out j hj (by omega))⟩
      case measure => simp [intOf]; omega
  . have hrf := hr.out.trans (lineOk_out (fun j hj => hno.out j hj (by omega)))
    obtain rfl : k = s.size := by omega
    by_cases hb : s.size <= 500
    . have hb' : (s.size : Int) <= 500 := by omega
      rw [decide_eq_true hb, Bool.true_and] at hrf
      replace hrf := lh hrf
      replace hno := lh hno
      go_wp2_with fail
      refine hM.out.mono ?_
      rintro e w' ⟨rfl, hd⟩
      obtain ⟨n, rfl⟩ := hd.out
      go_wp2_with fail
      go_ret
      exact ⟨by rw [hrf.out]; rfl, pw_below_drewN (Below.refl _ _) n⟩
    . have hb' : (500 : Int) < (s.size : Int) := by omega
      rw [decide_eq_false hb, Bool.false_and] at hrf
      replace hrf := lh hrf
      go_wp2_with fail
      go_ret
      exact ⟨by rw [hrf.out]; rfl, Below.refl _ _⟩
end Go.Proofs.YtbiioaggilaebaaGreatDoor.Pa
namespace Go.Proofs.YtbiioaggilaebaaGreatDoor.Pa
open Go Go.RowKit YtbiioaggilaebaaGreatDoorW.PrintWords B Tm Wi
open Lin (wrap_at)
def placeF : List ByteArray -> ByteArray -> Int -> Int
 | [], _, _ => -1
 | x :: l, s, i => if x.toList = s.toList then i else placeF l s (i + 1)
def place (l : List ByteArray) (s : ByteArray) : Int := placeF l s 0
theorem drop_cons (l : List ByteArray) (i : Nat) (hi : i < l.length) : l.drop i = l.getD i ByteArray.empty :: l.drop (i + 1) := by
 rw [List.getD_eq_getElem?_getD, List.getElem?_eq_getElem hi]
 exact List.drop_eq_getElem_cons hi
theorem place_l0 (l : List ByteArray) (s : ByteArray) (hl : l.length <= 140737488351232) : ∀ (d k i : Nat), l.length - i <= d -> d + 1 <= k -> i <= l.length -> PPlace.tambourref05_Place.l0 k l s (i : Int) = some (placeF (l.drop i) s i) := by
 intro d
 induction d with
 | zero =>
  intro k i h1 h2 h3
  obtain ⟨k, rfl⟩ : ∃ j, k = j + 1 := ⟨k - 1, by omega⟩
  rw [PPlace.tambourref05_Place.l0, if_neg (by omega), List.drop_of_length_le (by omega)]
  rfl
 | succ d ih =>
  intro k i h1 h2 h3
  by_cases hi : i < l.length
  . obtain ⟨k, rfl⟩ : ∃ j, k = j + 1 := ⟨k - 1, by omega⟩
    have hr : rdOf ByteArray.empty l (i : Int) = l.getD i ByteArray.empty := by simp [rdOf]
    rw [PPlace.tambourref05_Place.l0, if_pos (by omega), if_pos (by omega), hr, wrap_at (by omega) (by omega), drop_cons l i hi, placeF]
    have := ih k (i + 1) (by omega) (by omega) (by omega)
    rw [show (((i + 1 : Nat) : Int)) = (i : Int) + 1 from by omega] at this
    split
    . rfl
    . exact this
  . exact ih k i (by omega) (by omega) h3
theorem index_l0 (l : List ByteArray) (s : ByteArray) (hl : l.length <= 140737488351232) : ∀ (d k i : Nat), l.length - i <= d -> d + 1 <= k -> i <= l.length -> PSCont.slices_Index_string_string.l0 k l s (l.length : Int) (i : Int) = some (placeF (l.drop i) s i) := by
 intro d
 induction d with
 | zero =>
  intro k i h1 h2 h3
  obtain ⟨k, rfl⟩ : ∃ j, k = j + 1 := ⟨k - 1, by omega⟩
  rw [PSCont.slices_Index_string_string.l0, if_neg (by omega), List.drop_of_length_le (by omega)]
  rfl
 | succ d ih =>
  intro k i h1 h2 h3
  by_cases hi : i < l.length
  . obtain ⟨k, rfl⟩ : ∃ j, k = j + 1 := ⟨k - 1, by omega⟩
    have hr : rdOf ByteArray.empty l (i : Int) = l.getD i ByteArray.empty := by simp [rdOf]
    rw [PSCont.slices_Index_string_string.l0, if_pos (by omega), if_pos (by omega), if_pos (by omega), hr, wrap_at (by omega) (by omega), drop_cons l i hi, placeF]
    have := ih k (i + 1) (by omega) (by omega) (by omega)
    rw [show (((i + 1 : Nat) : Int)) = (i : Int) + 1 from by omega] at this
    by_cases h : s.toList = (l.getD i ByteArray.empty).toList
    . rw [if_pos h, if_pos h.symm]
    . rw [if_neg h, if_neg (fun e => h e.symm)]
      exact this
  . exact ih k i (by omega) (by omega) h3
theorem place_c (A : Option Addr) (c : Nat) (l : List ByteArray) (s : ByteArray) (w : World) (hT : TxAt w A c l) :
 Calls Tryz.prog 28 #[.slice A l.length c, .string s] w fun e w' => e = .returned (.int .i64 (place l s)) /\ Below w.heap.size w w' := by
 have h := place_l0 l s hT.2.2.1 l.length (l.length + 1) 0 (by omega) (Nat.le_refl _) (by omega)
 rw [show ((0 : Nat) : Int) = 0 from rfl, List.drop_zero] at h
 refine (PPlace.tambourref05_Place.calls (l.length + 1) A c l s _ w hT.1 hT.2.1 h).mono ?_
 rintro e w' ⟨rfl, hd⟩
 obtain ⟨n, rfl⟩ := hd.out
 exact ⟨rfl, pw_below_drewN (Below.refl _ _) n⟩
theorem index_c (A : Option Addr) (c : Nat) (l : List ByteArray) (s : ByteArray) (w : World) (hT : TxAt w A c l) :
 Calls Tryz.prog 35 #[.slice A l.length c, .string s] w fun e w' => e = .returned (.int .i64 (place l s)) /\ Below w.heap.size w w' := by
 have h := index_l0 l s hT.2.2.1 l.length (l.length + 1) 0 (by omega) (Nat.le_refl _) (by omega)
 rw [show ((0 : Nat) : Int) = 0 from rfl, List.drop_zero] at h
 refine (PSCont.slices_Index_string_string.calls (l.length + 1) A c l s _ w hT.1 hT.2.1 h).mono ?_
 rintro e w' ⟨rfl, hd⟩
 obtain ⟨n, rfl⟩ := hd.out
 exact ⟨rfl, pw_below_drewN (Below.refl _ _) n⟩
theorem contains_c (A : Option Addr) (c : Nat) (l : List ByteArray) (s : ByteArray) (w : World) (hT : TxAt w A c l) :
 Calls Tryz.prog 39 #[.slice A l.length c, .string s] w fun e w' => e = .returned (.bool (decide (0 <= place l s))) /\ Below w.heap.size w w' := by
 have h := index_l0 l s hT.2.2.1 l.length (l.length + 1) 0 (by omega) (Nat.le_refl _) (by omega)
 rw [show ((0 : Nat) : Int) = 0 from rfl, List.drop_zero] at h
 refine (PSCont.slices_Contains_string_string.calls (l.length + 1) A c l s (decide (0 <= place l s)) w hT.1 hT.2.1 (by
  unfold PSCont.slices_Contains_string_string.f PSCont.slices_Index_string_string.f
  rw [h]
  rfl)).mono ?_
 rintro e w' ⟨rfl, hd⟩
 obtain ⟨n, rfl⟩ := hd.out
 exact ⟨rfl, pw_below_drewN (Below.refl _ _) n⟩
end Go.Proofs.YtbiioaggilaebaaGreatDoor.Pa
namespace Go.Proofs.YtbiioaggilaebaaGreatDoor.Pa
open Go Go.RowKit YtbiioaggilaebaaGreatDoorW.PrintWords B Tm Wi
def wmade : Int -> List Op -> Int
 | n, [] => n
 | n, o :: l => if o.k = 1 then wmade (wrap64 (n + (o.ls.length : Int))) l else wmade n l
theorem wmade_eq : ∀ (l : List Op) (n : Nat), n + made l <= 9223372036854775807 -> wmade n l = ((n + made l : Nat) : Int)
 | [], n, _ => by simp [wmade, made]
 | o :: l, n, h => by
  rw [made_cons] at h ⊢
  unfold mk1 at h ⊢
  rw [wmade]
  split
  . next hk =>
    rw [if_pos hk] at h
    rw [show wrap64 ((n : Int) + (o.ls.length : Int)) = ((n + o.ls.length : Nat) : Int) from by unfold wrap64; omega, wmade_eq l _ (by omega)]
    omega
  . next hk =>
    rw [if_neg hk] at h
    rw [wmade_eq l _ (by omega)]
    omega
def smallF : Int -> List Op -> Bool
 | n, [] => true
 | n, o :: l => if (wrap64 (n + (o.ls.length : Int))) > 2000 then false else smallF (wrap64 (n + (o.ls.length : Int))) l
def small (deps : List ByteArray) (ops : List Op) : Bool := if (deps.length : Int) > 200 then false else if (ops.length : Int) > 1000 then false else smallF 0 ops
def toPMade (o : Op) : PMade.S38 := ⟨o.k, ⟨o.a, o.m⟩, ⟨o.b, o.n⟩, o.ls⟩
theorem C_PMade {w : World} {A : Option Addr} {c : Nat} {l : List Op} (h : OpsAt w A c l) : Kd.C PMade.k38 w A (l.map toPMade).length (l.map toPMade) := by
 obtain ⟨h1, h2, h3⟩ := h
 refine ⟨rfl, by rw [List.length_map]; omega, fun h0 => ?_⟩
 rw [List.length_map] at h0
 obtain ⟨b, of, rfl, hj⟩ := h3 h0
 refine ⟨_, rfl, fun j p hp => ?_⟩
 rw [List.getElem?_map, Option.map_eq_some_iff] at hp
 obtain ⟨o, ho, rfl⟩ := hp
 obtain ⟨hl, rfl⟩ := List.getElem?_eq_some_iff.1 ho
 obtain ⟨L, cl, hc, ht⟩ := hj j hl
 refine ⟨_, rfl, PMade.k38_mk w (toPMade l[j]) ht.2.1 ht.1, fun i u hu => ?_⟩
 have hi := (List.getElem?_eq_some_iff.1 hu).1
 have hi6 : i < 6 := hi
 have := hc i hi6
 rw [add_off, show of + (j * PMade.k38.sz + i) = of + j * 6 + i from by show of + (j * 6 + i) = _; omega, this, <- hu]
 match i, hi6 with
 | 0, _ => rfl
 | 1, _ => rfl
 | 2, _ => rfl
 | 3, _ => rfl
 | 4, _ => rfl
 | 5, _ => rfl
theorem rd_PMade (l : List Op) (i : Nat) (hi : i < l.length) : PMade.rd_T38 (l.map toPMade) (i : Int) = toPMade l[i] := by
 unfold PMade.rd_T38
 rw [List.getD_eq_getElem?_getD, Int.toNat_natCast, List.getElem?_map, List.getElem?_eq_getElem hi]
 rfl
def toPPMade (o : Op) : PPMade.S38 := ⟨o.k, ⟨o.a, o.m⟩, ⟨o.b, o.n⟩, o.ls⟩
theorem C_PPMade {w : World} {A : Option Addr} {c : Nat} {l : List Op} (h : OpsAt w A c l) : Kd.C PPMade.k38 w A (l.map toPPMade).length (l.map toPPMade) := by
 obtain ⟨h1, h2, h3⟩ := h
 refine ⟨rfl, by rw [List.length_map]; omega, fun h0 => ?_⟩
 rw [List.length_map] at h0
 obtain ⟨b, of, rfl, hj⟩ := h3 h0
 refine ⟨_, rfl, fun j p hp => ?_⟩
 rw [List.getElem?_map, Option.map_eq_some_iff] at hp
 obtain ⟨o, ho, rfl⟩ := hp
 obtain ⟨hl, rfl⟩ := List.getElem?_eq_some_iff.1 ho
 obtain ⟨L, cl, hc, ht⟩ := hj j hl
 refine ⟨_, rfl, PPMade.k38_mk w (toPPMade l[j]) ht.2.1 ht.1, fun i u hu => ?_⟩
 have hi := (List.getElem?_eq_some_iff.1 hu).1
 have hi6 : i < 6 := hi
 have := hc i hi6
 rw [add_off, show of + (j * PPMade.k38.sz + i) = of + j * 6 + i from by show of + (j * 6 + i) = _; omega, this, <- hu]
 match i, hi6 with
 | 0, _ => rfl
 | 1, _ => rfl
 | 2, _ => rfl
 | 3, _ => rfl
 | 4, _ => rfl
 | 5, _ => rfl
theorem rd_PPMade (l : List Op) (i : Nat) (hi : i < l.length) : PPMade.rd_T38 (l.map toPPMade) (i : Int) = toPPMade l[i] := by
 unfold PPMade.rd_T38
 rw [List.getD_eq_getElem?_getD, Int.toNat_natCast, List.getElem?_map, List.getElem?_eq_getElem hi]
 rfl
def toPSmall (o : Op) : PSmall.S38 := ⟨o.k, ⟨o.a, o.m⟩, ⟨o.b, o.n⟩, o.ls⟩
theorem C_PSmall {w : World} {A : Option Addr} {c : Nat} {l : List Op} (h : OpsAt w A c l) : Kd.C PSmall.k38 w A (l.map toPSmall).length (l.map toPSmall) := by
 obtain ⟨h1, h2, h3⟩ := h
 refine ⟨rfl, by rw [List.length_map]; omega, fun h0 => ?_⟩
 rw [List.length_map] at h0
 obtain ⟨b, of, rfl, hj⟩ := h3 h0
 refine ⟨_, rfl, fun j p hp => ?_⟩
 rw [List.getElem?_map, Option.map_eq_some_iff] at hp
 obtain ⟨o, ho, rfl⟩ := hp
 obtain ⟨hl, rfl⟩ := List.getElem?_eq_some_iff.1 ho
 obtain ⟨L, cl, hc, ht⟩ := hj j hl
 refine ⟨_, rfl, PSmall.k38_mk w (toPSmall l[j]) ht.2.1 ht.1, fun i u hu => ?_⟩
 have hi := (List.getElem?_eq_some_iff.1 hu).1
 have hi6 : i < 6 := hi
 have := hc i hi6
 rw [add_off, show of + (j * PSmall.k38.sz + i) = of + j * 6 + i from by show of + (j * 6 + i) = _; omega, this, <- hu]
 match i, hi6 with
 | 0, _ => rfl
 | 1, _ => rfl
 | 2, _ => rfl
 | 3, _ => rfl
 | 4, _ => rfl
 | 5, _ => rfl
theorem rd_PSmall (l : List Op) (i : Nat) (hi : i < l.length) : PSmall.rd_T38 (l.map toPSmall) (i : Int) = toPSmall l[i] := by
 unfold PSmall.rd_T38
 rw [List.getD_eq_getElem?_getD, Int.toNat_natCast, List.getElem?_map, List.getElem?_eq_getElem hi]
 rfl
theorem rmade_l0 (l : List Op) (hl : l.length <= 140737488351232) (note : ByteArray) (deps : List ByteArray) : ∀ (d k i : Nat) (n : Int), l.length - i <= d -> d + 1 <= k -> i <= l.length -> PMade.tambourref05_Made.l0 k n (i : Int) note deps (l.map toPMade) = some (wmade n (l.drop i)) := by
 intro d
 induction d with
 | zero =>
  intro k i n h1 h2 h3
  obtain ⟨k, rfl⟩ : ∃ j, k = j + 1 := ⟨k - 1, by omega⟩
  rw [PMade.tambourref05_Made.l0, if_neg (by rw [List.length_map]; omega), List.drop_of_length_le (by omega)]
  rfl
 | succ d ih =>
  intro k i n h1 h2 h3
  by_cases hi : i < l.length
  . obtain ⟨k, rfl⟩ : ∃ j, k = j + 1 := ⟨k - 1, by omega⟩
    rw [PMade.tambourref05_Made.l0, if_pos (by rw [List.length_map]; omega), if_pos (by omega), rd_PMade l i hi, Lin.wrap_at (by omega) (by omega), List.drop_eq_getElem_cons hi, wmade]
    have ih' := fun n => ih k (i + 1) n (by omega) (by omega) (by omega)
    rw [show (((i + 1 : Nat) : Int)) = (i : Int) + 1 from by omega] at ih'
    show (if (l[i]).k = 1 then _ else _) = _
    by_cases hk : (l[i]).k = 1
    . rw [if_pos hk, if_pos hk]; exact ih' _
    . rw [if_neg hk, if_neg hk]; exact ih' _
  . exact ih k i n (by omega) (by omega) h3
theorem made_l0 (l : List Op) (hl : l.length <= 140737488351232) : ∀ (d k i : Nat) (n : Int), l.length - i <= d -> d + 1 <= k -> i <= l.length -> PPMade.patch_Made.l0 k n (l.map toPPMade) ((l.map toPPMade).length : Int) (i : Int) = some (wmade n (l.drop i)) := by
 intro d
 induction d with
 | zero =>
  intro k i n h1 h2 h3
  obtain ⟨k, rfl⟩ : ∃ j, k = j + 1 := ⟨k - 1, by omega⟩
  rw [PPMade.patch_Made.l0, if_neg (by rw [List.length_map]; omega), List.drop_of_length_le (by omega)]
  rfl
 | succ d ih =>
  intro k i n h1 h2 h3
  by_cases hi : i < l.length
  . obtain ⟨k, rfl⟩ : ∃ j, k = j + 1 := ⟨k - 1, by omega⟩
    rw [PPMade.patch_Made.l0, if_pos (by rw [List.length_map]; omega), if_pos (by omega), if_pos (by rw [List.length_map]; omega), rd_PPMade l i hi, Lin.wrap_at (by omega) (by omega), List.drop_eq_getElem_cons hi, wmade]
    have ih' := fun n => ih k (i + 1) n (by omega) (by omega) (by omega)
    rw [show (((i + 1 : Nat) : Int)) = (i : Int) + 1 from by omega] at ih'
    show (if (l[i]).k = 1 then _ else _) = _
    by_cases hk : (l[i]).k = 1
    . rw [if_pos hk, if_pos hk]; exact ih' _
    . rw [if_neg hk, if_neg hk]; exact ih' _
  . exact ih k i n (by omega) (by omega) h3
theorem small_l0 (l : List Op) (hl : l.length <= 140737488351232) : ∀ (d k i : Nat) (n : Int), l.length - i <= d -> d + 1 <= k -> i <= l.length -> PSmall.tambourlaw05_Small.l0 k n (l.map toPSmall) ((l.map toPSmall).length : Int) (i : Int) = some (smallF n (l.drop i)) := by
 intro d
 induction d with
 | zero =>
  intro k i n h1 h2 h3
  obtain ⟨k, rfl⟩ : ∃ j, k = j + 1 := ⟨k - 1, by omega⟩
  rw [PSmall.tambourlaw05_Small.l0, if_neg (by rw [List.length_map]; omega), List.drop_of_length_le (by omega)]
  rfl
 | succ d ih =>
  intro k i n h1 h2 h3
  by_cases hi : i < l.length
  . obtain ⟨k, rfl⟩ : ∃ j, k = j + 1 := ⟨k - 1, by omega⟩
    rw [PSmall.tambourlaw05_Small.l0, if_pos (by rw [List.length_map]; omega), if_pos (by omega), if_pos (by rw [List.length_map]; omega), rd_PSmall l i hi, Lin.wrap_at (by omega) (by omega), List.drop_eq_getElem_cons hi, smallF]
    have ih' := fun n => ih k (i + 1) n (by omega) (by omega) (by omega)
    rw [show (((i + 1 : Nat) : Int)) = (i : Int) + 1 from by omega] at ih'
    show (if wrap64 (n + ((l[i]).ls.length : Int)) > 2000 then _ else _) = _
    by_cases hk : wrap64 (n + ((l[i]).ls.length : Int)) > 2000
    . rw [if_pos hk, if_pos hk]; 
    . rw [if_neg hk, if_neg hk]; exact ih' _
  . exact ih k i n (by omega) (by omega) h3
theorem rmade_c (note : ByteArray) (D : Option Addr) (dc : Nat) (deps : List ByteArray) (A : Option Addr) (ac : Nat) (ops : List Op) (w : World) (hD : TxAt w D dc deps) (hO : OpsAt w A ac ops) :
 Calls Tryz.prog 21 #[.agg #[.string note, .slice D deps.length dc, .slice A ops.length ac]] w fun e w' => e = .returned (.int .i64 (wmade 0 ops)) /\ Below w.heap.size w w' := by
 have h := rmade_l0 ops hO.2.1 note deps ops.length (ops.length + 1) 0 0 (by omega) (Nat.le_refl _) (by omega)
 rw [List.drop_zero] at h
 have := PMade.tambourref05_Made.calls _ note D dc deps A ac (ops.map toPMade) _ w hD.1 hD.2.1 (C_PMade hO) (by rw [List.length_map]; exact hO.1) h
 rw [List.length_map] at this
 exact this
theorem pmade_c (note : ByteArray) (D : Option Addr) (dc : Nat) (deps : List ByteArray) (A : Option Addr) (ac : Nat) (ops : List Op) (w : World) (hD : TxAt w D dc deps) (hO : OpsAt w A ac ops) :
 Calls Tryz.prog 20 #[.agg #[.string note, .slice D deps.length dc, .slice A ops.length ac]] w fun e w' => e = .returned (.int .i64 (wmade 0 ops)) /\ Below w.heap.size w w' := by
 have h := made_l0 ops hO.2.1 ops.length (ops.length + 1) 0 0 (by omega) (Nat.le_refl _) (by omega)
 rw [List.drop_zero] at h
 have := PPMade.patch_Made.calls _ note D dc deps A ac (ops.map toPPMade) _ w hD.1 hD.2.1 (C_PPMade hO) (by rw [List.length_map]; exact hO.1) h
 rw [List.length_map] at this
 exact this
theorem small_c (note : ByteArray) (D : Option Addr) (dc : Nat) (deps : List ByteArray) (A : Option Addr) (ac : Nat) (ops : List Op) (w : World) (hD : TxAt w D dc deps) (hO : OpsAt w A ac ops) :
 Calls Tryz.prog 9 #[.agg #[.string note, .slice D deps.length dc, .slice A ops.length ac]] w fun e w' => e = .returned (.bool (small deps ops)) /\ Below w.heap.size w w' := by
 have h : PSmall.tambourlaw05_Small.f (ops.length + 2) note deps (ops.map toPSmall) = some (small deps ops) := by
  unfold PSmall.tambourlaw05_Small.f small
  rw [List.length_map]
  by_cases h1 : (deps.length : Int) > 200
  . rw [if_pos h1, if_pos h1, PSmall.tambourlaw05_Small.j0, if_pos rfl]
  . rw [if_neg h1, if_neg h1, PSmall.tambourlaw05_Small.j0]
    by_cases h2 : (ops.length : Int) > 1000
    . rw [if_pos (by simp; omega), if_pos h2]
    . rw [if_neg (by simp; omega), if_neg h2]
      have h := small_l0 ops hO.2.1 ops.length (ops.length + 1) 0 0 (by omega) (Nat.le_refl _) (by omega)
      rw [List.drop_zero] at h
      exact h
 have := PSmall.tambourlaw05_Small.calls _ note D dc deps A ac (ops.map toPSmall) _ w hD.1 hD.2.1 (C_PSmall hO) (by rw [List.length_map]; exact hO.1) h
 rw [List.length_map] at this
 exact this
end Go.Proofs.YtbiioaggilaebaaGreatDoor.Pa
namespace Go.Proofs.YtbiioaggilaebaaGreatDoor.Pa
open Go Go.RowKit YtbiioaggilaebaaGreatDoorW.PrintWords B Tm Wi
open Lin (mrk Marker_any)
theorem odd_c (s : ByteArray) (w : World) : Calls Tryz.prog 115 #[.string s] w fun e w' => e = .returned (.bool (!lineOk s)) /\ w' = w := by
 have C1 := Tryz.strings_Contains_one s 10 w
 rw [<- Lib.contains_iff_indexByte] at C1
 have C2 := Marker_any s w
 have hl : lineOk s = (decide (s.size <= 500) && (!s.data.toList.contains 10 && !mrk s.data.toList)) := rfl
 rw [hl]
 generalize s.data.toList.contains 10 = b1 at *
 generalize mrk s.data.toList = b2 at *
 replace C1 := lh C1
 replace C2 := lh C2
 clear hl
 by_cases h : (500 : Int) < (s.size : Int)
 . have hd : decide (s.size <= 500) = false := by simp; omega
   rw [hd]
   go_enter Tryz.func115, Tryz.ntmps115
   go_wp2_with fail
   go_ret
   exact ⟨rfl, rfl⟩
 . have hd : decide (s.size <= 500) = true := by simp; omega
   rw [hd]
   go_enter Tryz.func115, Tryz.ntmps115
   go_wp2_with fail
   refine (C1.out).mono ?_
   rintro e w' ⟨rfl, rfl⟩
   cases b1
   . go_wp2_with fail
     refine (C2.out).mono ?_
     rintro e w' ⟨rfl, rfl⟩
     go_wp2_with fail
     go_ret
     exact ⟨by cases b2 <;> rfl, rfl⟩
   . go_wp2_with fail
     go_ret
     exact ⟨rfl, rfl⟩
theorem index_odd (A : Option Addr) (c : Nat) (l : List ByteArray) (w : World) (h : TxAt w A c l) :
 Calls Tryz.prog 148 #[.slice A l.length c, .func (.func 115) #[] #[]] w fun e w' => (∃ k : Int, e = .returned (.int .i64 k) /\ (decide (0 <= k) = !l.all lineOk)) /\ Below w.heap.size w w' := by
 obtain ⟨hC, hc, hlen, _⟩ := h
 have hCH := lh hC
 obtain ⟨n, hn⟩ : ∃ n, n = l.length := ⟨_, rfl⟩
 rw [<- hn] at hC hc hlen ⊢
 replace hn := lh hn
 clear hC
 go_enter Tryz.func148, Tryz.ntmps148
 go_upto_region 2 with fail
 go_loopg [8] n (fun g' i W => ∃ k : Nat, g' = n - k /\ k <= n /\ i = .int .i64 k /\ W = w /\ ∀ j, j < k -> lineOk (l.getD j ByteArray.empty) = true)
 case atStart => exact ⟨0, rfl, by omega, rfl, rfl, fun j hj => absurd hj (by omega)⟩
 case round =>
  obtain ⟨k, hg', hk, rfl, rfl, hok⟩ := hrel
  subst hg'
  have hokH := lh hok
  clear hok
  by_cases hkn : k < n
  . have hki : (k : Int) < (n : Int) := by omega
    have hcc := str_cell hCH.out k (by rw [<- hn.out]; exact hkn)
    obtain ⟨b, o, rfl, hcell⟩ := hcc
    obtain ⟨x, hx⟩ : ∃ x, x = l.getD k ByteArray.empty := ⟨_, rfl⟩
    rw [<- hx] at hcell
    have CO := lh (odd_c x wr)
    replace hx := lh hx
    go_wp2_with fail
    refine (CO.out).mono ?_
    rintro e w' ⟨rfl, rfl⟩
    cases hr : lineOk x with
    | false =>
     have hbad := lh (show l.all lineOk = false by
      rw [List.all_eq_false]
      exact ⟨x, by rw [hx.out]; exact getD_mem' l k _ (by rw [<- hn.out]; exact hkn), by rw [hr]; simp⟩)
     clear hr
     go_wp2_with fail
     go_ret
     refine ⟨⟨_, rfl, ?_⟩, Below.refl _ _⟩
     rw [hbad.out]
     simp
    | true =>
     have hrH := lh hr
     clear hr
     go_wp2_with fail
     go_roundg (n - (k + 1))
     case measure => omega
     case rel => exact ⟨k + 1, rfl, by omega, by go_num, rfl, fun j hj => by
      by_cases e : j < k
      . exact hokH.out j e
      . rw [show j = k from by omega, <- hx.out]; exact hrH.out⟩
  . have hki : ¬ (k : Int) < (n : Int) := by omega
    have hall := lh (show l.all lineOk = true by
     refine List.all_eq_true.2 fun x hx => ?_
     obtain ⟨j, hj, rfl⟩ := List.getElem_of_mem hx
     have := hokH.out j (by have := hn.out; omega)
     rw [List.getD_eq_getElem?_getD, List.getElem?_eq_getElem hj] at this
     exact this)
    go_wp2_with fail
    go_ret
    refine ⟨⟨_, rfl, ?_⟩, Below.refl _ _⟩
    rw [hall.out]
    decide
theorem contains_odd (A : Option Addr) (c : Nat) (l : List ByteArray) (w : World) (h : TxAt w A c l) :
 Calls Tryz.prog 118 #[.slice A l.length c, .func (.func 115) #[] #[]] w fun e w' => e = .returned (.bool (!l.all lineOk)) /\ Below w.heap.size w w' := by
 have C := lh (index_odd A c l w h)
 clear h
 go_enter Tryz.func118, Tryz.ntmps118
 go_wp2_with fail
 refine (C.out).mono ?_
 rintro e w' ⟨⟨k, rfl, hk⟩, hb⟩
 replace hb := lh hb
 replace hk := lh hk
 go_wp2_with fail
 go_ret
 exact ⟨by rw [<- hk.out]; rfl, hb.out⟩
end Go.Proofs.YtbiioaggilaebaaGreatDoor.Pa
