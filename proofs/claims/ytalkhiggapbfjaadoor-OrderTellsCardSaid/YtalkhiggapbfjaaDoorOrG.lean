/- order.Heads: its walk. -/
import Derived.Test.YtalkhiggapbfjaaDoorOrH
import Derived.WalkLawsBesides
set_option linter.unusedVariables false
set_option linter.unusedSimpArgs false
namespace Go.Proofs.YtalkhiggapbfjaaDoor.Orp
open Go Go.RowKit Go.Proofs.YtalkhiggapbfjaaDoor.B Go.Proofs.YtalkhiggapbfjaaDoor.St Go.Proofs.YtalkhiggapbfjaaDoor.Mp
open Classical in
/-- A set of names. -/
noncomputable def BF (S : ByteArray → Prop) : ByteArray → Option Value := fun s => if S s then some (.bool true) else none
theorem BF_upd (S : ByteArray → Prop) (x : ByteArray) : upd (BF S) x (.bool true) = BF (fun s => s = x ∨ S s) := by
  funext y
  unfold upd BF
  by_cases e : y = x
  · rw [if_pos e, if_pos (.inl e)]
  · rw [if_neg e]
    by_cases h : S y
    · rw [if_pos h, if_pos (.inr h)]
    · rw [if_neg h, if_neg (fun h2 => h2.elim e h)]
theorem BF_era (S : ByteArray → Prop) (x : ByteArray) : era (BF S) x = BF (fun s => S s ∧ s ≠ x) := by
  funext y
  unfold era BF
  by_cases e : y = x
  · rw [if_pos e, if_neg (fun h => h.2 e)]
  · rw [if_neg e]
    by_cases h : S y
    · rw [if_pos h, if_pos ⟨h, e⟩]
    · rw [if_neg h, if_neg (fun h2 => h h2.1)]
theorem BF_congr {S S' : ByteArray → Prop} (h : ∀ s, S s ↔ S' s) : BF S = BF S' := by
  have : S = S' := by funext s; exact propext (h s)
  rw [this]
theorem BF_some (S : ByteArray → Prop) (s : ByteArray) : (BF S s).isSome = true ↔ S s := by
  unfold BF
  by_cases h : S s
  · rw [if_pos h]; simp [h]
  · rw [if_neg h]; simp [h]
theorem BF_none : BF (fun _ => False) = fun _ => none := by funext s; unfold BF; rw [if_neg id]
def HeadsPost (zs : List Nx) (w : World) (e : Ending) (w' : World) : Prop := ∃ v, e = .returned v ∧ Rising w.heap.size w' v (Head (nds zs)) ∧ Below w.heap.size w w'
def S2 (zs : List Nx) (k : Nat) (s : ByteArray) : Prop := s ∈ names zs ∧ ∀ z ∈ zs.take k, s ∉ z.deps
def S3 (zs : List Nx) (k : Nat) (x : Nx) (j : Nat) (s : ByteArray) : Prop := S2 zs k s ∧ s ∉ x.deps.take j
theorem S2_end {zs : List Nx} {s : ByteArray} : S2 zs zs.length s ↔ Head (nds zs) s := by
  unfold S2 Head There
  rw [List.take_of_length_le (Nat.le_refl _)]
  constructor
  · rintro ⟨h1, h2⟩
    refine ⟨?_, fun y hy => ?_⟩
    · unfold names at h1
      obtain ⟨z, hz, e⟩ := List.mem_map.1 h1
      exact ⟨z.nd, List.mem_map.2 ⟨z, hz, rfl⟩, e⟩
    · obtain ⟨z, hz, rfl⟩ := List.mem_map.1 (show y ∈ zs.map Nx.nd from hy)
      exact h2 z hz
  · rintro ⟨⟨y, hy, e⟩, h2⟩
    obtain ⟨z, hz, rfl⟩ := List.mem_map.1 (show y ∈ zs.map Nx.nd from hy)
    exact ⟨List.mem_map.2 ⟨z, hz, e⟩, fun z' hz' => h2 z'.nd (List.mem_map.2 ⟨z', hz', rfl⟩)⟩
theorem S3_end {zs : List Nx} {k : Nat} {x : Nx} (hk : k < zs.length) (hx : x = zs[k]) (s : ByteArray) : S3 zs k x x.deps.length s ↔ S2 zs (k + 1) s := by
  unfold S3 S2
  rw [List.take_of_length_le (Nat.le_refl _), List.take_succ_eq_append_getElem hk, ← hx]
  constructor
  · rintro ⟨⟨h1, h2⟩, h3⟩
    refine ⟨h1, fun z hz => ?_⟩
    rcases List.mem_append.1 hz with h | h
    · exact h2 z h
    · rw [List.mem_singleton.1 h]; exact h3
  · rintro ⟨h1, h2⟩
    exact ⟨⟨h1, fun z hz => h2 z (List.mem_append.2 (.inl hz))⟩, h2 x (List.mem_append.2 (.inr (List.mem_singleton.2 rfl)))⟩
theorem S3_next {zs : List Nx} {k : Nat} {x : Nx} {j : Nat} (hj : j < x.deps.length) {d : ByteArray} (hd : x.deps[j] = d) (s : ByteArray) : (S3 zs k x j s ∧ s ≠ d) ↔ S3 zs k x (j + 1) s := by
  unfold S3
  have := take_succ_mem hj (n := s)
  rw [hd] at this
  rw [this]
  constructor
  · rintro ⟨⟨h1, h2⟩, h3⟩; exact ⟨h1, fun h => h.elim h3 h2⟩
  · rintro ⟨h1, h2⟩; exact ⟨⟨h1, fun h => h2 (.inr h)⟩, fun h => h2 (.inl h)⟩
theorem below_of {B : Nat} {w w' : World} {k : Nat} (h : Below B w w') (hk : k < B) : w'.heap[k]? = w.heap[k]? := h.block k hk
set_option maxRecDepth 100000 in
set_option maxHeartbeats 4000000 in
theorem heads_c (A : Option Addr) (c : Nat) (zs : List Nx) (w : World) (hS : SetAt w A c zs) (hz : zs.length ≤ 1000) (hd : ∀ z ∈ zs, z.deps.length ≤ 1000) :
    Calls Tryd.prog 11 #[.slice A zs.length c] w (HeadsPost zs w) := by
  have hmm := @run_makeMap Tryd.prog
  have K := keyStr Tryd.underlying9
  obtain ⟨n, hn⟩ : ∃ n, zs.length = n := ⟨_, rfl⟩
  rw [hn]
  have hnn := Lib.hid hn
  have hn1 : n ≤ 1000 := by omega
  have hSS := Lib.hid hS
  have hdd := Lib.hid hd
  clear hS hn hd
  go_enter Tryd.func11, Tryd.ntmps11
  go_wp2_with fail
  go_loopw [13] (fun iv wr => ∃ k : Nat, k ≤ n ∧ iv = .int .i64 k ∧ GMap slit wr Tryd.prog 9 w.heap.size k (BF (fun s => s ∈ (names zs).take k)) ∧ Below w.heap.size w wr) (fun iv _ => n - (intOf iv).toNat)
  case atStart =>
    exact ⟨0, Nat.zero_le _, rfl, by rw [BF_congr (S' := fun _ => False) (fun s => by simp), BF_none]; exact GMap.made _ _ _ _, (Below.refl _ _).alloc (Nat.le_refl _) _⟩
  case round =>
    obtain ⟨k, hk, rfl, hM, hB⟩ := hrel
    by_cases hlt : k < n
    · obtain ⟨b, o, rfl, c0, c1, c2, c3⟩ := (hSS.out.below hB).get k (by rw [hnn.out]; exact hlt)
      have hkz : k < zs.length := by rw [hnn.out]; exact hlt
      obtain ⟨x, hx⟩ : ∃ x, x = zs[k] := ⟨_, rfl⟩
      rw [← hx] at c0 c1 c2 c3
      have hsz := (hSS.out.2.2.2 x (by rw [hx]; exact List.getElem_mem _)).1
      have hkey : keyOf Tryd.prog 9 (.string x.nm) = some (slit x.nm) := keyStr_mk Tryd.underlying9 (by unfold maxLen; omega)
      have htk := names_take zs k hkz
      rw [← hx] at htk
      have hM' := Lib.hid (show ∀ o, GMap slit (wr.alloc o) Tryd.prog 9 w.heap.size k (BF (fun s => s ∈ (names zs).take k)) from fun o => hM.same (heap_alloc_lt _ _ _ hM.lt))
      have hkn : k < maxLen := by unfold maxLen; omega
      have hBH := Lib.hid (show ∀ o, Below w.heap.size w (wr.alloc o) from fun o => hB.alloc hB.size o)
      replace htk := Lib.hid htk
      replace hx := Lib.hid hx
      clear hM hB
      go_wp2_with (at_mapUpdate; refine wpList_update_g K rfl _ _ _ 60 rfl 4 Tryd.underlying60 rfl (hM'.out _) hkn x.nm (.bool true) rfl rfl hkey ?_; intro w1 hM1 hturn; replace hM1 := Lib.hid hM1; replace hturn := Lib.hid hturn)
      go_roundw
      case rel =>
        refine ⟨k + 1, by omega, by go_num, ?_, below_turn (hBH.out _) (Nat.le_refl _) (hBH.out _).size hturn.out⟩
        have := hM1.out
        rw [BF_upd, BF_congr (S' := fun s => s ∈ (names zs).take (k + 1)) (fun s => by rw [htk.out]; simp [or_comm])] at this
        exact this
      case measure => simp [intOf]; omega
    · obtain rfl : n = k := by omega
      have hM0 := hM
      rw [BF_congr (S' := S2 zs 0) (fun s => by unfold S2; rw [List.take_of_length_le (by rw [← hnn.out]; unfold names; simp)]; simp)] at hM0
      have hM0H := Lib.hid hM0
      have hBH := Lib.hid hB
      clear hM hM0 hB
      go_wp2_with fail
      go_loopw [23] (fun iv wr => ∃ k : Nat, k ≤ n ∧ iv = .int .i64 k ∧ GMap slit wr Tryd.prog 9 w.heap.size n (BF (S2 zs k)) ∧ Below w.heap.size w wr) (fun iv _ => n - (intOf iv).toNat)
      case atStart => exact ⟨0, Nat.zero_le _, rfl, hM0H.out, hBH.out⟩
      case round =>
        clear hM0H hBH
        obtain ⟨k, hk, rfl, hM, hB⟩ := hrel
        by_cases hlt : k < n
        · obtain ⟨b, o, rfl, c0, c1, c2, c3⟩ := (hSS.out.below hB).get k (by rw [hnn.out]; exact hlt)
          have hkz : k < zs.length := by rw [hnn.out]; exact hlt
          obtain ⟨x, hx⟩ : ∃ x, x = zs[k] := ⟨_, rfl⟩
          rw [← hx] at c0 c1 c2 c3
          have hxz : x ∈ zs := by rw [hx]; exact List.getElem_mem _
          have hT := (hSS.out.2.2.2 x hxz).2
          have hdl := hdd.out x hxz
          obtain ⟨L, hL⟩ : ∃ L, x.deps.length = L := ⟨_, rfl⟩
          have hLb : L ≤ 1000 := by omega
          replace hL := Lib.hid hL
          replace hT := Lib.hid hT
          replace hx := Lib.hid hx
          have hM0 := Lib.hid (fun o => hM.same (heap_alloc_lt wr o _ hM.lt))
          have hB0 := Lib.hid (fun o => hB.alloc hB.size o)
          clear hM hB hdl
          go_wp2_with fail
          rw [hL.out]
          obtain ⟨wo, rfl⟩ : ∃ wo : World, wo = wr := ⟨_, rfl⟩
          go_wp2_with fail
          go_loopw [31] (fun jv wr => ∃ j : Nat, j ≤ L ∧ jv = .int .i64 j ∧ GMap slit wr Tryd.prog 9 w.heap.size n (BF (S3 zs k x j)) ∧ Below w.heap.size w wr) (fun jv _ => L - (intOf jv).toNat)
          case atStart => exact ⟨0, Nat.zero_le _, rfl, by rw [BF_congr (S' := S2 zs k) (fun s => by unfold S3; simp)]; exact hM0.out _, hB0.out _⟩
          case round =>
            obtain ⟨j, hj, rfl, hM, hB⟩ := hrel
            by_cases hjl : j < L
            · have hjo : j < x.deps.length := by rw [hL.out]; exact hjl
              obtain ⟨g3, o3, hD, hcell⟩ := (hT.out.below hB).2.2.2 (by omega)
              have cd := hcell j hjo
              obtain ⟨d, hde⟩ : ∃ d, d = x.deps.getD j ByteArray.empty := ⟨_, rfl⟩
              rw [← hde] at cd
              have hdg : x.deps[j] = d := by rw [hde, List.getD_eq_getElem?_getD, List.getElem?_eq_getElem hjo]; rfl
              have hdm : d ∈ x.deps := by rw [← hdg]; exact List.getElem_mem _
              have hkd : keyOf Tryd.prog 9 (.string d) = some (slit d) := keyStr_mk Tryd.underlying9 (by have := hT.out.2.2.1 d hdm; unfold maxLen; omega)
              have hMH := Lib.hid hM
              have hBH := Lib.hid hB
              have hdgH := Lib.hid hdg
              have hDH := Lib.hid hD
              clear hM hB hdg hdm hde hcell hD
              rw [hDH.out]
              go_wp2_with (at_delete; refine wpList_delete_g K rfl _ _ 60 rfl 4 Tryd.underlying60 rfl hMH.out d rfl hkd ?_; intro w1 hM1 hturn; replace hM1 := Lib.hid hM1; replace hturn := Lib.hid hturn)
              go_roundw
              case rel =>
                refine ⟨j + 1, by omega, by go_num, ?_, below_turn hBH.out (Nat.le_refl _) hBH.out.size hturn.out⟩
                have := hM1.out
                rw [BF_era, BF_congr (fun s => S3_next hjo hdgH.out s)] at this
                exact this
              case measure => simp [intOf]; omega
            · obtain rfl : L = j := by omega
              have hMH := Lib.hid hM
              have hBH := Lib.hid hB
              clear hM hB
              go_wp2_with fail
              go_roundw
              case rel =>
                refine ⟨k + 1, by omega, by go_num, ?_, hBH.out⟩
                have := hMH.out
                rw [← hL.out, BF_congr (fun s => S3_end hkz hx.out s)] at this
                exact this
              case measure => simp [intOf]; omega
        · obtain rfl : n = k := by omega
          have hMH := Lib.hid hM
          have hBH := Lib.hid hB
          have hsc := Lib.hid (sorted_c hM (by omega))
          clear hM hB
          go_wp2_with fail
          refine (keysFn_c _ _).mono ?_
          rintro e w1 ⟨rfl, rfl⟩
          go_wp2_with fail
          refine hsc.out.mono ?_
          rintro e w2 ⟨v, rfl, hr, hb2⟩
          replace hr := Lib.hid hr
          replace hb2 := Lib.hid hb2
          go_wp2_with fail
          go_ret
          obtain ⟨l, h1, h2, h3⟩ := hr.out
          have hsz : w.heap.size ≤ (wr.alloc (.cells #[.map (some w.heap.size)] 60)).heap.size := by rw [St.size_alloc]; have := hBH.out.size; omega
          refine ⟨v, rfl, ⟨l, h1.base (fun q hq => Nat.le_trans hsz (h1.lt q hq).1), h2, fun s => ?_⟩, (hBH.out.alloc hBH.out.size _).trans (hb2.out.mono hsz)⟩
          rw [h3 s]
          show (BF (S2 zs n) s).isSome = true ↔ _
          rw [BF_some, ← hnn.out]
          exact S2_end
end Go.Proofs.YtalkhiggapbfjaaDoor.Orp
