/- The document's Missing, Heads of layer 6. -/
import Derived.Test.YtalkhiggapbfjaaDoorOrY
set_option linter.unusedVariables false
set_option linter.unusedSimpArgs false
namespace Go.Proofs.YtalkhiggapbfjaaDoor.Orp
open Go Go.RowKit Go.Proofs.YtalkhiggapbfjaaDoor.B Go.Proofs.YtalkhiggapbfjaaDoor.St Go.Proofs.YtalkhiggapbfjaaDoor.Mp
open Go.Proofs.YtalkhiggapbfjaaDoor.Hp (ltB le tob ltB_iff)
/-- What Linear tells: the list, the code. -/
def LinQ (zs : List Nx) (L : List ByteArray) (k : Int) : Prop :=
  (¬ (names zs).Nodup ∧ L = [] ∧ k = 12) ∨ ((names zs).Nodup ∧ ∃ l, Lin ltB (nds zs) l ∧ ((l.length < zs.length ∧ L = [] ∧ k = 11) ∨ (l.length = zs.length ∧ k = 0 ∧ L = l)))
theorem LinQ.uniq {zs : List Nx} {L L' : List ByteArray} {k k' : Int} (h : LinQ zs L k) (h' : LinQ zs L' k') : L = L' ∧ k = k' := by
  rcases h with ⟨hn, rfl, rfl⟩ | ⟨hn, l, hl, h⟩
  · rcases h' with ⟨_, rfl, rfl⟩ | ⟨hn', _⟩
    · exact ⟨rfl, rfl⟩
    · exact absurd hn' hn
  · rcases h' with ⟨hn', _⟩ | ⟨_, l', hl', h'⟩
    · exact absurd hn hn'
    · have e := hl'.uniq Hp.tob hl
      subst e
      rcases h with ⟨hlt, rfl, rfl⟩ | ⟨hle, rfl, rfl⟩ <;> rcases h' with ⟨hlt', rfl, rfl⟩ | ⟨hle', rfl, rfl⟩
      · exact ⟨rfl, rfl⟩
      · omega
      · omega
      · exact ⟨rfl, rfl⟩
theorem linq_r {zs : List Nx} {base : Nat} {w : World} {v : Value} {k : Int} (h : LinRR zs base w v k) : ∃ L, SRow base w v L ∧ LinQ zs L k ∧ L.length ≤ zs.length := by
  rcases h with ⟨hn, rfl, rfl⟩ | ⟨hn, l, hl, ⟨hlt, rfl, rfl⟩ | ⟨hle, rfl, hr⟩⟩
  · exact ⟨[], SRow.nil _ _, .inl ⟨hn, rfl, rfl⟩, Nat.zero_le _⟩
  · exact ⟨[], SRow.nil _ _, .inr ⟨hn, l, hl, .inl ⟨hlt, rfl, rfl⟩⟩, Nat.zero_le _⟩
  · exact ⟨l, hr, .inr ⟨hn, l, hl, .inr ⟨hle, rfl, rfl⟩⟩, by omega⟩
theorem linq_o {zs : List Nx} {base : Nat} {w : World} {v er : Value} (h : LinRes zs base w v er) : ∃ L k, SRow base w v L ∧ LinQ zs L k ∧ ErK er k ∧ L.length ≤ zs.length := by
  rcases h with ⟨hn, rfl, rfl⟩ | ⟨hn, l, hl, ⟨hlt, rfl, rfl⟩ | ⟨hle, rfl, hr⟩⟩
  · exact ⟨[], 12, SRow.nil _ _, .inl ⟨hn, rfl, rfl⟩, .inr rfl, Nat.zero_le _⟩
  · exact ⟨[], 11, SRow.nil _ _, .inr ⟨hn, l, hl, .inl ⟨hlt, rfl, rfl⟩⟩, .inr rfl, Nat.zero_le _⟩
  · exact ⟨l, 0, hr, .inr ⟨hn, l, hl, .inr ⟨hle, rfl, rfl⟩⟩, .inl ⟨rfl, rfl⟩, by omega⟩
theorem linq_m {zs : List Nx} {hv : List ByteArray} {base : Nat} {w : World} {v er : Value} (h : MissRes zs hv base w v er) : ∃ L k, SRow base w v (L.filter fun s => !inB hv s) ∧ LinQ zs L k ∧ ErK er k ∧ L.length ≤ zs.length := by
  rcases h with ⟨hn, rfl, rfl⟩ | ⟨hn, l, hl, ⟨hlt, rfl, rfl⟩ | ⟨hle, rfl, hr⟩⟩
  · exact ⟨[], 12, SRow.nil _ _, .inl ⟨hn, rfl, rfl⟩, .inr rfl, Nat.zero_le _⟩
  · exact ⟨[], 11, SRow.nil _ _, .inr ⟨hn, l, hl, .inl ⟨hlt, rfl, rfl⟩⟩, .inr rfl, Nat.zero_le _⟩
  · exact ⟨l, 0, hr, .inr ⟨hn, l, hl, .inr ⟨hle, rfl, rfl⟩⟩, .inl ⟨rfl, rfl⟩, by omega⟩
def MissP2 (zs : List Nx) (hv : List ByteArray) (w : World) (e : Ending) (w' : World) : Prop := ∃ v L k, e = .returned (.tuple #[v, .int .i64 k]) ∧ SRow w.heap.size w' v (L.filter fun s => !inB hv s) ∧ LinQ zs L k ∧ L.length ≤ zs.length ∧ Below w.heap.size w w'
set_option maxRecDepth 100000 in
set_option maxHeartbeats 1000000 in
theorem missr_c (A : Option Addr) (c : Nat) (zs : List Nx) (B : Option Addr) (d m : Nat) (hv : List ByteArray) (w : World) (hS : SetAt w A c zs) (hB : RAt w B hv) (hm : hv.length = m) (hm1 : m ≤ 1000000) (n : Nat) (hn : zs.length = n) (hn1 : n ≤ 1000) (hd : ∀ z ∈ zs, z.deps.length ≤ 1000) : Calls Tryd.prog 14 #[.slice A n c, .slice B m d] w (MissP2 zs hv w) := by
  have hL := Lib.hid (linr_c A c zs w hS n hn hn1 hd)
  have hBH := Lib.hid hB
  have hmH := Lib.hid hm
  have hnH := Lib.hid hn
  clear hS hB hm hn hd
  go_enter Tryd.func14, Tryd.ntmps14
  go_wp2_with fail
  refine hL.out.mono ?_
  rintro e w1 ⟨v, k, rfl, hrr, hb1⟩
  obtain ⟨L, hr, hq, hLl⟩ := linq_r hrr
  obtain ⟨Al, cl, hvl⟩ := hr.shape
  obtain ⟨p, hp⟩ : ∃ p, L.length = p := ⟨_, rfl⟩
  rw [hp] at hvl
  subst hvl
  have hp1 : p ≤ 1000 := by rw [hnH.out] at hLl; omega
  replace hr := Lib.hid hr
  replace hq := Lib.hid hq
  replace hb1 := Lib.hid hb1
  replace hp := Lib.hid hp
  replace hLl := Lib.hid hLl
  clear hrr hL
  go_wp2_with fail
  go_loopw [8, 9] (fun ov iv wr => ∃ j : Nat, j ≤ p ∧ iv = .int .i64 j ∧ SRow w1.heap.size wr ov ((L.take j).filter fun s => !inB hv s) ∧ Below w1.heap.size w1 wr) (fun _ iv _ => p - (intOf iv).toNat)
  case atStart => exact ⟨0, Nat.zero_le _, rfl, SRow.nil _ _, Below.refl _ _⟩
  case round =>
    obtain ⟨j, hj, rfl, ho, hB⟩ := hrel
    obtain ⟨Ao, co, hvo⟩ := ho.shape
    obtain ⟨t, ht⟩ : ∃ t, ((L.take j).filter fun s => !inB hv s).length = t := ⟨_, rfl⟩
    have ht1 : t ≤ 1000 := by
      have h1 := List.length_filter_le (fun s => !inB hv s) (L.take j)
      rw [List.length_take] at h1
      omega
    rw [ht] at hvo
    subst hvo
    by_cases hlt : j < p
    · have hjl : j < L.length := by rw [hp.out]; exact hlt
      have hrw := srow_below hr.out hB
      obtain ⟨g, hg, -⟩ := hrw.addr (by omega)
      subst hg
      have cx := hrw.at j hjl
      obtain ⟨x, hx⟩ : ∃ x, x = L.getD j ByteArray.empty := ⟨_, rfl⟩
      rw [← hx] at cx
      have hxl : L[j] = x := by rw [hx, List.getD_eq_getElem?_getD, List.getElem?_eq_getElem hjl]; rfl
      have htk : L.take (j + 1) = L.take j ++ [x] := by rw [List.take_succ_eq_append_getElem hjl, hxl]
      have hin := Lib.hid (in_c B d hv x wr (hBH.out.keep (hb1.out.trans (hB.mono hb1.out.size))) m hmH.out hm1)
      have hws := hB.size
      replace hx := Lib.hid hx
      replace htk := Lib.hid htk
      replace ho := Lib.hid ho
      replace hB := Lib.hid hB
      replace ht := Lib.hid ht
      clear hxl hrw
      by_cases hi : x ∈ hv
      · have hb : inB hv x = true := inB_iff.2 hi
        have hf : (L.take (j + 1)).filter (fun s => !inB hv s) = (L.take j).filter (fun s => !inB hv s) := by
          rw [htk.out, List.filter_append, List.filter_cons_of_neg (by simp [hb])]
          simp
        replace hb := Lib.hid hb
        replace hf := Lib.hid hf
        replace hi := Lib.hid hi
        go_wp2_with fail
        refine hin.out.mono ?_
        rintro e w2 ⟨he, rfl⟩
        rw [hb.out] at he
        subst he
        go_wp2_with fail
        go_roundw
        case rel => exact ⟨j + 1, by omega, by go_num, by rw [hf.out]; exact ho.out, hB.out⟩
        case measure => simp [intOf]; omega
      · have hb : inB hv x = false := by rw [Bool.eq_false_iff]; exact fun h => hi (inB_iff.1 h)
        have hf : (L.take (j + 1)).filter (fun s => !inB hv s) = (L.take j).filter (fun s => !inB hv s) ++ [x] := by
          rw [htk.out, List.filter_append, List.filter_cons_of_pos (by simp [hb])]
          rfl
        replace hb := Lib.hid hb
        replace hf := Lib.hid hf
        replace hi := Lib.hid hi
        go_wp2_with fail
        refine hin.out.mono ?_
        rintro e w2 ⟨he, rfl⟩
        rw [hb.out] at he
        subst he
        go_wp2_with (at_builtin; go_loud (refine str_app rfl _ _ 25 rfl Tryd.underlying25 rfl t 1 rfl ho.out ht.out (by omega) hws ?_; intro g6 cap6 w6 hr6 hg6 hl6; replace hr6 := Lib.hid hr6; replace hg6 := Lib.hid hg6; replace hl6 := Lib.hid hl6))
        go_roundw
        case rel => exact ⟨j + 1, by omega, by go_num, by rw [hf.out]; exact hr6.out, below_grew hB.out hws hg6.out (fun i hi => (ho.out.lt i hi).1)⟩
        case measure => simp [intOf]; omega
    · obtain rfl : p = j := by omega
      rw [List.take_of_length_le (by rw [hp.out]; exact Nat.le_refl _)] at ho
      have ho' := ho.base (b1 := w.heap.size) (fun i hi => Nat.le_trans hb1.out.size (ho.lt i hi).1)
      replace ho' := Lib.hid ho'
      replace hB := Lib.hid hB
      clear ho ht
      go_wp2_with fail
      go_ret2
      exact ⟨_, L, _, rfl, ho'.out, hq.out, hLl.out, hb1.out.trans (hB.out.mono hb1.out.size)⟩
def HeadP2 (zs : List Nx) (w : World) (e : Ending) (w' : World) : Prop := ∃ v, e = .returned v ∧ Rising w.heap.size w' v (Head (nds zs)) ∧ Below w.heap.size w w'
set_option maxRecDepth 100000 in
set_option maxHeartbeats 1000000 in
theorem headr_c (A : Option Addr) (c : Nat) (zs : List Nx) (w : World) (hS : SetAt w A c zs) (n : Nat) (hn : zs.length = n) (hn1 : n ≤ 1000) (hd : ∀ z ∈ zs, z.deps.length ≤ 1000) : Calls Tryd.prog 17 #[.slice A n c] w (HeadP2 zs w) := by
  have hSH := Lib.hid hS
  have hnH := Lib.hid hn
  have hdH := Lib.hid hd
  clear hS hn hd
  go_enter Tryd.func17, Tryd.ntmps17
  go_wp2_with fail
  go_loopw [3, 4] (fun lv iv wr => ∃ (i : Nat) (l : List ByteArray), i ≤ n ∧ iv = .int .i64 i ∧ SRow w.heap.size wr lv l ∧ SS (toL l) ∧ (∀ y, y ∈ l ↔ ∃ z ∈ zs.take i, z.nm = y ∧ ∀ x ∈ zs, y ∉ x.deps) ∧ Below w.heap.size w wr) (fun _ iv _ => n - (intOf iv).toNat)
  case atStart => exact ⟨0, [], Nat.zero_le _, rfl, SRow.nil _ _, .nil, fun y => by simp, Below.refl _ _⟩
  case round =>
    obtain ⟨i, l, hi, rfl, hr, hss, hmem, hB⟩ := hrel
    obtain ⟨wo, hwo⟩ : ∃ wo, wo = wr := ⟨_, rfl⟩
    subst hwo
    by_cases hlt : i < n
    · have hiz : i < zs.length := by rw [hnH.out]; exact hlt
      obtain ⟨b, o, hA, c0, -, -, -⟩ := (hSH.out.below hB).get i hiz
      obtain ⟨x, hx⟩ : ∃ x, x = zs[i] := ⟨_, rfl⟩
      rw [← hx] at c0
      subst hA
      have htk : zs.take (i + 1) = zs.take i ++ [x] := by rw [List.take_succ_eq_append_getElem hiz, hx]
      have hll : l.length ≤ 100000 := by
        have := subset_len (l := l) (m := names zs) (ss_nodup hss) (fun y hy => by
          obtain ⟨z, hz, e, _⟩ := (hmem y).1 hy
          exact List.mem_map.2 ⟨z, List.mem_of_mem_take hz, e⟩)
        unfold names at this
        rw [List.length_map, hnH.out] at this
        omega
      obtain ⟨Al, cl, hvl⟩ := hr.shape
      obtain ⟨ll, hl0⟩ : ∃ ll, l.length = ll := ⟨_, rfl⟩
      rw [hl0] at hvl
      subst hvl
      have hadd := Lib.hid (fun w' hb => add_c (.slice Al ll cl) l x.nm w' (srow_below hr hb) hss hll (Nat.le_trans hB.size (Below.size hb)))
      replace htk := Lib.hid htk
      replace hx := Lib.hid hx
      replace hr := Lib.hid hr
      replace hss := Lib.hid hss
      replace hmem := Lib.hid hmem
      replace hB := Lib.hid hB
      go_wp2_with fail
      go_loopw [5, 6] (fun nv iv wr => ∃ (k q : Nat) (nb : Bool), k ≤ n ∧ iv = .int .i64 k ∧ nv = .bool nb ∧ (nb = true ↔ ∃ z ∈ zs.take k, x.nm ∈ z.deps) ∧ wr = wo.drewN q) (fun _ iv _ => n - (intOf iv).toNat)
      case atStart => exact ⟨0, 0, false, Nat.zero_le _, rfl, rfl, by simp, rfl⟩
      case round =>
        obtain ⟨k, q, nb, hk, rfl, rfl, hnb, hwr⟩ := hrel
        have hBr : Below wo.heap.size wo wr := by rw [hwr]; exact below_drewN (Below.refl _ _) q
        by_cases hkl : k < n
        · have hkz : k < zs.length := by rw [hnH.out]; exact hkl
          have hSr := (hSH.out.below hB.out).below hBr
          obtain ⟨b2, o2, hA2, -, -, e2, -⟩ := hSr.get k hkz
          cases hA2
          obtain ⟨b2, o2, hA2, f0, -, -, -⟩ := hSr.get i hiz
          cases hA2
          obtain ⟨z, hz⟩ : ∃ z, z = zs[k] := ⟨_, rfl⟩
          rw [← hz] at e2
          rw [← hx.out] at f0
          have hzm : z ∈ zs := by rw [hz]; exact List.getElem_mem _
          have hzT := (hSr.2.2.2 z hzm).2
          have hzd := hdH.out z hzm
          have htkk : zs.take (k + 1) = zs.take k ++ [z] := by rw [List.take_succ_eq_append_getElem hkz, hz]
          have hin := Lib.hid (in_c z.D z.dc z.deps x.nm wr.drew (fun h0 => hzT.rat h0) z.deps.length rfl (by omega))
          have hnx : ∀ b, (b = true ↔ (nb = true ∨ x.nm ∈ z.deps)) → (b = true ↔ ∃ y ∈ zs.take (k + 1), x.nm ∈ y.deps) := fun b hb => by
            rw [hb, hnb, htkk]
            constructor
            · rintro (⟨y, hy, h⟩ | h)
              · exact ⟨y, List.mem_append_left _ hy, h⟩
              · exact ⟨z, by simp, h⟩
            · rintro ⟨y, hy, h⟩
              rcases List.mem_append.1 hy with hy | hy
              · exact .inl ⟨y, hy, h⟩
              · rw [List.mem_singleton.1 hy] at h; exact .inr h
          replace hnx := Lib.hid hnx
          replace hnb := Lib.hid hnb
          replace hz := Lib.hid hz
          replace hwr := Lib.hid hwr
          replace hBr := Lib.hid hBr
          clear hSr hzT htkk c0
          cases nb
          · by_cases hi2 : x.nm ∈ z.deps
            · have hb : inB z.deps x.nm = true := inB_iff.2 hi2
              replace hi2 := Lib.hid hi2
              replace hb := Lib.hid hb
              go_wp2_with fail
              go_region_held_law (fun w' => w'.cell? ⟨b, o + i * 4, none⟩ = some (.string x.nm) ∧ w'.cell? ⟨b, o + k * 4 + 2, none⟩ = some (.slice z.D z.deps.length z.dc)) (go_keep)
                ((go_at_call 30
                  refine hin.out.mono ?_
                  rintro e w2 ⟨he, rfl⟩
                  rw [hb.out] at he
                  subst he))
              go_wp2_with fail
              go_roundw
              case rel => exact ⟨k + 1, q + 1, true, by omega, by go_num, rfl, hnx.out true (by simp [hi2.out]), by rw [hwr.out]; rfl⟩
              case measure => simp [intOf]; omega
            · have hb : inB z.deps x.nm = false := by rw [Bool.eq_false_iff]; exact fun h => hi2 (inB_iff.1 h)
              replace hi2 := Lib.hid hi2
              replace hb := Lib.hid hb
              go_wp2_with fail
              go_region_held_law (fun w' => w'.cell? ⟨b, o + i * 4, none⟩ = some (.string x.nm) ∧ w'.cell? ⟨b, o + k * 4 + 2, none⟩ = some (.slice z.D z.deps.length z.dc)) (go_keep)
                ((go_at_call 30
                  refine hin.out.mono ?_
                  rintro e w2 ⟨he, rfl⟩
                  rw [hb.out] at he
                  subst he))
              go_wp2_with fail
              go_roundw
              case rel => exact ⟨k + 1, q + 1, false, by omega, by go_num, rfl, hnx.out false (by simp [hi2.out]), by rw [hwr.out]; rfl⟩
              case measure => simp [intOf]; omega
          · go_wp2_with fail
            go_region
            go_wp2_with fail
            go_roundw
            case rel => exact ⟨k + 1, q + 1, true, by omega, by go_num, rfl, hnx.out true (by simp), by rw [hwr.out]; rfl⟩
            case measure => simp [intOf]; omega
        · obtain rfl : n = k := by omega
          rw [List.take_of_length_le (by rw [hnH.out]; exact Nat.le_refl _)] at hnb
          have hSr := (hSH.out.below hB.out).below hBr
          obtain ⟨b2, o2, hA2, f0, -, -, -⟩ := hSr.get i hiz
          cases hA2
          rw [← hx.out] at f0
          have hBo : Below w.heap.size w wr := hB.out.trans (hBr.mono hB.out.size)
          have hr2 := srow_below hr.out hBr
          replace hnb := Lib.hid hnb
          replace hBr := Lib.hid hBr
          replace hBo := Lib.hid hBo
          replace hr2 := Lib.hid hr2
          clear hSr hwr c0
          cases nb
          · have hno : ∀ y ∈ zs, x.nm ∉ y.deps := fun y hy h => absurd (hnb.out.2 ⟨y, hy, h⟩) (by decide)
            replace hno := Lib.hid hno
            go_wp2_with fail
            refine (hadd.out wr hBr.out).mono ?_
            rintro e w2 ⟨v', l', rfl, hr', hss', hmem', hb'⟩
            have hB' := Lib.hid (hBo.out.trans (hb'.mono hBo.out.size))
            replace hr' := Lib.hid hr'
            replace hss' := Lib.hid hss'
            replace hmem' := Lib.hid hmem'
            clear hb'
            go_wp2_with fail
            go_roundw
            case rel =>
              refine ⟨i + 1, l', by omega, by go_num, hr'.out, hss'.out, fun y => ?_, hB'.out⟩
              rw [hmem'.out y, hmem.out y, htk.out]
              constructor
              · rintro (rfl | ⟨z, hz, e, h⟩)
                · exact ⟨x, by simp, rfl, hno.out⟩
                · exact ⟨z, List.mem_append_left _ hz, e, h⟩
              · rintro ⟨z, hz, e, h⟩
                rcases List.mem_append.1 hz with hz | hz
                · exact .inr ⟨z, hz, e, h⟩
                · rw [List.mem_singleton.1 hz] at e; exact .inl e.symm
            case measure => simp [intOf]; omega
          · have hyes := hnb.out.1 rfl
            replace hyes := Lib.hid hyes
            go_wp2_with fail
            go_roundw
            case rel =>
              refine ⟨i + 1, l, by omega, by go_num, hr2.out, hss.out, fun y => ?_, hBo.out⟩
              rw [hmem.out y, htk.out]
              constructor
              · rintro ⟨z, hz, e, h⟩
                exact ⟨z, List.mem_append_left _ hz, e, h⟩
              · rintro ⟨z, hz, e, h⟩
                rcases List.mem_append.1 hz with hz | hz
                · exact ⟨z, hz, e, h⟩
                · rw [List.mem_singleton.1 hz] at e
                  obtain ⟨y', hy', h'⟩ := hyes.out
                  rw [e] at h'
                  exact absurd h' (h y' hy')
            case measure => simp [intOf]; omega
    · obtain rfl : n = i := by omega
      rw [List.take_of_length_le (by rw [hnH.out]; exact Nat.le_refl _)] at hmem
      obtain ⟨Al, cl, hvl⟩ := hr.shape
      obtain ⟨ll, hl0⟩ : ∃ ll, l.length = ll := ⟨_, rfl⟩
      rw [hl0] at hvl
      subst hvl
      have hri : Rising w.heap.size wo (.slice Al ll cl) (Head (nds zs)) := ⟨l, hr, hss, fun y => by
        rw [hmem y]
        constructor
        · rintro ⟨z, hz, rfl, h⟩
          refine ⟨⟨z.nd, List.mem_map.2 ⟨z, hz, rfl⟩, rfl⟩, fun t ht => ?_⟩
          obtain ⟨x, hx, rfl⟩ := nds_nd ht
          exact h x hx
        · rintro ⟨⟨t, ht, e⟩, h⟩
          obtain ⟨z, hz, rfl⟩ := nds_nd ht
          exact ⟨z, hz, e, fun x hx => h x.nd (List.mem_map.2 ⟨x, hx, rfl⟩)⟩⟩
      replace hri := Lib.hid hri
      replace hB := Lib.hid hB
      clear hr hss hmem hl0
      go_wp2_with fail
      go_ret
      exact ⟨_, rfl, hri.out, hB.out⟩
end Go.Proofs.YtalkhiggapbfjaaDoor.Orp
