/- What LawWireReads, LawWireWrites, LawWireSpoilt lean on, part r of 25: the texts TmU, WiD. -/
import Derived.Test.YtbefkoljcacpcaaGreatDoorTVg
import Derived.Test.YtbefkoljcacpcaaGreatDoorTVm
import Derived.Test.YtbefkoljcacpcaaGreatDoorTVq
set_option linter.unusedVariables false
set_option linter.unusedSimpArgs false
namespace Go.Proofs.YtbefkoljcacpcaaGreatDoor.Tm
open Go Go.RowKit Go.Proofs.YtbefkoljcacpcaaGreatDoor.B Go.Proofs.YtbefkoljcacpcaaGreatDoor.Bld Go.Proofs.YtbefkoljcacpcaaGreatDoor.Sha
theorem results_cell_tmp2 {P : Program} {fn : Func} {p q q2 : Tmp} {ty : TypeId} (h : fn.results = #[.cell p ty, .tmp q, .tmp q2]) (tmps : Array Value) (w : World) (g : Nat) (t : TypeId) (cs : Array Value) (fr : Nat × Nat) (d : TypeDesc)
    (hp : tmps.getD p undef = .pointer (some ⟨g, 0, none⟩)) (hg : w.heap[g]? = some (.cells cs t fr))
    (hu : P.underlying ty = some d) (hd : (match d with | .struct _ | .array _ _ => true | _ => false) = true) (hi : (P.info? ty).map (·.size) = some cs.size) (v v2 : Value) (hq : tmps.getD q undef = v) (hq2 : tmps.getD q2 undef = v2) :
    (results fn tmps).run P w = .ok (.tuple #[.agg cs, v, v2]) w := by
  have hp' : tmps[p]?.getD undef = .pointer (some ⟨g, 0, none⟩) := by simpa using hp
  have hq' : tmps[q]?.getD undef = v := by simpa using hq
  have hq2' : tmps[q2]?.getD undef = v2 := by simpa using hq2
  simp [results, h, hp', hq', hq2', asAddr, run_loadVar_row w g t ty cs fr d hg hu hd hi]
def RItemPost (deep : Nat) (s : ByteArray) (w : World) (ev : Ending) (w' : World) : Prop :=
  ∃ f c0 c1 c2 ok r, ev = .returned (.tuple #[.agg #[c0, c1, c2], .string r, .bool ok]) ∧ FK (fun b => w.heap.size ≤ b ∧ b < w'.heap.size) w' f [c0, c1, c2] ∧ ItemSpec deep s.data.toList f ok r.data.toList ∧ Below w.heap.size w w'
theorem ritemPost_no {deep : Nat} {s : ByteArray} {w W : World} (hsp : ItemSpec deep s.data.toList (.mk false [] []) false []) (ht : Below w.heap.size w W) (x y z : Value) :
    RItemPost deep s w (.returned (.tuple #[.agg #[.bool false, .string ⟨#[]⟩, .slice none 0 0], .string ⟨#[]⟩, .bool false])) (((W.setCell ⟨w.heap.size, 0, none⟩ x).setCell ⟨w.heap.size, 1, none⟩ y).setCell ⟨w.heap.size, 2, none⟩ z) :=
  ⟨.mk false [] [], _, _, _, false, ⟨#[]⟩, rfl, FK.text _ _ ⟨#[]⟩, hsp, ((ht.setCell (Nat.le_refl _) _).setCell (Nat.le_refl _) _).setCell (Nat.le_refl _) _⟩
def RCont (l : List UInt8) (k : Nat) (cont : Bool) : Prop := (cont = true → ∃ a, l[k]? = some a ∧ isD a ∧ k < 6) ∧ (cont = false → k = 6 ∨ k = l.length ∨ ∃ c, l[k]? = some c ∧ ¬ isD c)
def RBad (l : List UInt8) (k n : Nat) (bad : Bool) : Prop :=
  (bad = true → k = 0 ∨ (1 < k ∧ l[0]? = some 48) ∨ l.length ≤ k ∨ l[k]? ≠ some 58 ∨ l.length - k - 1 < n) ∧ (bad = false → l[k]? = some 58 ∧ n ≤ l.length - k - 1)
set_option maxRecDepth 100000 in
set_option maxHeartbeats 8000000 in
theorem ritem_text_c (deep : Nat) (s : ByteArray) (w : World) (hs : s.size ≤ 65536) (h0 : s.data.toList[0]? ≠ some 40) :
    Calls Tryz.prog 58 #[.string s, .int .i64 deep] w (RItemPost deep s w) := by
  obtain ⟨w0, hw0⟩ : ∃ w0, w0 = w.alloc (.cells #[.bool false, .string ⟨#[]⟩, .slice none 0 0] 52) := ⟨_, rfl⟩
  have hr0 : w0.heap[w.heap.size]? = some (.cells #[.bool false, .string ⟨#[]⟩, .slice none 0 0] 52 (0, 0)) := by rw [hw0]; exact heap_alloc_at _ _
  have hb0 : Below w.heap.size w w0 := by rw [hw0]; exact (Below.refl _ _).alloc (Nat.le_refl _) _
  obtain ⟨k0, k1, k2, hsh, hfz⟩ := blk3 hr0
  have hsl := toList_size s
  have hr0H := Lib.hid hr0
  have hb0H := Lib.hid hb0
  clear hr0 hb0
  by_cases hz : s.size = 0
  · have hnil : s.data.toList = [] := List.eq_nil_of_length_eq_zero (by omega)
    have hre : s.toList = [] := by rw [ByteArray.toList_eq]; exact hnil
    have hsp := Lib.hid (show ItemSpec deep s.data.toList (.mk false [] []) false [] by rw [hnil]; exact item_empty deep _)
    clear hnil
    go_enter Tryz.func58, Tryz.ntmps58
    go_upto_region 1 with fail
    rw [← hw0]
    replace hw0 := Lib.hid hw0
    go_wp2_with fail
    (try simp only [Exit.inBlock, Exit.then])
    refine bodyPost_ret (results_cell_tmp2 rfl _ _ w.heap.size 52 #[.bool false, .string ⟨#[]⟩, .slice none 0 0] (0, 0) _ rfl (set3 hr0H.out) Tryz.underlying52 rfl (by kernel_rfl) _ _ rfl rfl) rfl ?_
    exact ritemPost_no hsp.out hb0H.out _ _ _
  · have hre1 : ¬ s.toList = [] := by rw [ByteArray.toList_eq]; intro e; rw [e] at hsl; simp at hsl; omega
    have hre2 : s.toList.isEmpty = false := by simpa using hre1
    have hrp : 0 < s.size := by omega
    have hrpi : (0 : Int) < (s.size : Int) := by omega
    obtain ⟨a, ha⟩ : ∃ a, a = s[0]'hrp := ⟨_, rfl⟩
    have hl0 : s.data.toList[0]? = some a := by rw [ha, Array.getElem?_toList, Array.getElem?_eq_getElem hrp]; rfl
    have ha40 : ¬ a = 40 := by rintro rfl; exact h0 hl0
    have q40 : (((s[0]'hrp).toNat : Int) == 40) = false := by
      rw [← ha, beq_eq_false_iff_ne]
      intro h
      exact ha40 (UInt8.toNat_inj.1 (by have : ((40 : UInt8).toNat : Int) = 40 := rfl; omega))
    have haH := Lib.hid ha
    have hl0H := Lib.hid hl0
    have h0H := Lib.hid h0
    clear ha hl0 h0 ha40
    obtain ⟨n, hn⟩ : ∃ n, n = s.size := ⟨_, rfl⟩
    have hsz : (s.size : Int) = (n : Int) := by omega
    have hsn : n ≤ 65536 := by omega
    have hslH := Lib.hid hsl
    have hnH := Lib.hid hn
    clear hn hsl hs hz
    go_enter Tryz.func58, Tryz.ntmps58
    go_upto_region 1 with fail
    rw [← hw0]
    replace hw0 := Lib.hid hw0
    go_wp2_with fail
    go_loopg [11, 12] n (fun g' v i W => ∃ k m : Nat, g' = n - k ∧ v = .int .i64 m ∧ i = .int .i64 k ∧ RInv s.data.toList k m ∧ W = w0)
    case atStart => exact ⟨0, 0, rfl, rfl, rfl, rinv_zero _, rfl⟩
    case round =>
      obtain ⟨k, m, hg', rfl, rfl, hI, rfl⟩ := hrel
      subst hg'
      have hkl := hI.1
      have hk6 := hI.2.1
      have hm := rinv_le hI
      rw [hslH.out, ← hnH.out] at hkl
      have hIH := Lib.hid hI
      clear hI
      have hkb : (k : Int) ≤ 6 := by omega
      have hix := fun (h : k < s.size) (W : World) => str_idx (P := Tryz.prog) Tryz.underlying9 s k h W
      have hat := fun (h : k < s.size) => getD_some (l := s.data.toList) (k := k) (by rw [hslH.out]; exact h)
      generalize s.data.toList.getD k 0 = a at *
      obtain ⟨b, hb⟩ : ∃ b, b = a.toNat := ⟨_, rfl⟩
      have hb256 : b < 256 := by rw [hb]; exact a.toNat_lt
      rw [← hb] at hix
      replace hb := Lib.hid hb
      have hixH := Lib.hid hix
      have hatH := Lib.hid hat
      clear hix hat
      go_upto_region 18 with fail
      go_cut [75] (fun v wc => ∃ cont, v = .bool cont ∧ wc = wr ∧ RCont s.data.toList k cont)
      case first =>
        by_cases hkn : k < n
        · have hki : (k : Int) < (n : Int) := by omega
          have hix := hixH.out (by rw [← hnH.out]; exact hkn)
          have hat := Lib.hid (hatH.out (by rw [← hnH.out]; exact hkn))
          by_cases g1 : (48 : Int) ≤ (b : Int)
          · by_cases g2 : (b : Int) ≤ 57
            · have hd := Lib.hid (show isD a by unfold isD; rw [← hb.out]; omega)
              by_cases g3 : (k : Int) < 6
              · go_wp2_with fail
                go_meet
                case rel => exact ⟨_, rfl, rfl, fun _ => ⟨a, hat.out, hd.out, by omega⟩, fun h => (by cases h)⟩
              · go_wp2_with fail
                go_meet
                case rel => exact ⟨_, rfl, rfl, fun h => (by cases h), fun _ => .inl (by omega)⟩
            · have hd := Lib.hid (show ¬ isD a by unfold isD; rw [← hb.out]; omega)
              go_wp2_with fail
              go_meet
              case rel => exact ⟨_, rfl, rfl, fun h => (by cases h), fun _ => .inr (.inr ⟨a, hat.out, hd.out⟩)⟩
          · have hd := Lib.hid (show ¬ isD a by unfold isD; rw [← hb.out]; omega)
            go_wp2_with fail
            go_meet
            case rel => exact ⟨_, rfl, rfl, fun h => (by cases h), fun _ => .inr (.inr ⟨a, hat.out, hd.out⟩)⟩
        · have hki : ¬ (k : Int) < (n : Int) := by omega
          go_wp2_with fail
          go_meet
          case rel => exact ⟨_, rfl, rfl, fun h => (by cases h), fun _ => .inr (.inl (by rw [hslH.out, ← hnH.out]; omega))⟩
      case rest =>
        obtain ⟨cont, rfl, rfl, hcont⟩ := hcut
        cases cont with
        | true =>
          obtain ⟨a2, h1, h2, h3⟩ := hcont.1 rfl
          have hkn : k < n := by have := (List.getElem?_eq_some_iff.1 h1).1; rw [hslH.out, ← hnH.out] at this; exact this
          have hki : (k : Int) < (n : Int) := by omega
          have hix := hixH.out (by rw [← hnH.out]; exact hkn)
          have hat := hatH.out (by rw [← hnH.out]; exact hkn)
          rw [hat] at h1
          obtain rfl := Option.some.inj h1
          have hd2 := h2
          unfold isD at hd2
          rw [← hb.out] at hd2
          have g1 : (48 : Int) ≤ (b : Int) := by omega
          have g2 : (b : Int) ≤ 57 := by omega
          have gw : ((b : Int) - 48) % 256 = (b : Int) - 48 := by omega
          have hs1 := Lib.hid (rinv_step hIH.out h3 hat h2)
          rw [← hb.out] at hs1
          have gs := Lib.hid (show (((10 * m + (b - 48) : Nat)) : Int) = (m : Int) * 10 + ((b : Int) - 48) by omega)
          have hmi : (m : Int) < 1000000 := by omega
          clear hcont h1 h2 hat hd2
          go_wp2_with fail
          go_roundg (n - (k + 1))
          case measure => omega
          case rel => exact ⟨k + 1, _, rfl, by rw [gs.out], by go_num, hs1.out, rfl⟩
        | false =>
          have he := Lib.hid (hcont.2 rfl)
          clear hcont
          have hmi : (m : Int) < 1000000 := by omega
          go_upto_region 21 with fail
          go_cut [117] (fun v wc2 => ∃ bad, v = .bool bad ∧ wc2 = wc ∧ RBad s.data.toList k m bad)
          case first =>
            by_cases hk0 : k = 0
            · have g0 : ((k : Int) == 0) = true := by rw [beq_iff_eq]; omega
              go_wp2_with fail
              go_meet
              case rel => exact ⟨_, rfl, rfl, fun _ => .inl hk0, fun h => (by cases h)⟩
            · have g0 : ((k : Int) == 0) = false := by rw [beq_eq_false_iff_ne]; omega
              by_cases hb48 : 1 < k ∧ s.data.toList[0]? = some 48
              · have g1 : (1 : Int) < (k : Int) := by omega
                have g48 : (((s[0]'hrp).toNat : Int) == 48) = true := by
                  have := hl0H.out
                  rw [hb48.2] at this
                  rw [← haH.out, ← Option.some.inj this]; rfl
                replace hb48 := Lib.hid hb48
                go_wp2_with fail
                go_meet
                case rel => exact ⟨_, rfl, rfl, fun _ => .inr (.inl hb48.out), fun h => (by cases h)⟩
              · have g48 : ¬ (1 : Int) < (k : Int) ∨ ((1 : Int) < (k : Int) ∧ (((s[0]'hrp).toNat : Int) == 48) = false) := by
                  by_cases h : 1 < k
                  · right
                    refine ⟨by omega, ?_⟩
                    rw [beq_eq_false_iff_ne, ← haH.out]
                    intro h2
                    exact hb48 ⟨h, by rw [hl0H.out]; congr 1; exact UInt8.toNat_inj.1 (by have : ((48 : UInt8).toNat : Int) = 48 := rfl; omega)⟩
                  · left; omega
                clear hb48
                by_cases hkn : k < n
                · have hki : ¬ (n : Int) ≤ (k : Int) := by omega
                  have hki2 : (k : Int) < (n : Int) := by omega
                  have hix := hixH.out (by rw [← hnH.out]; exact hkn)
                  have hat := Lib.hid (hatH.out (by rw [← hnH.out]; exact hkn))
                  by_cases h58 : b = 58
                  · have g58 : ((b : Int) != 58) = false := by rw [bne_eq_false_iff_eq]; omega
                    have hat58 := Lib.hid (show s.data.toList[k]? = some 58 by rw [hat.out]; congr 1; exact UInt8.toNat_inj.1 (by rw [← hb.out, h58]; rfl))
                    replace h58 := Lib.hid h58
                    by_cases hmk : m ≤ n - k - 1
                    · have gm : ¬ (n : Int) - (k : Int) - 1 < (m : Int) := by omega
                      have hmkH := Lib.hid (show m ≤ s.data.toList.length - k - 1 by rw [hslH.out, ← hnH.out]; exact hmk)
                      clear hmk
                      rcases g48 with g48 | ⟨g1, g48⟩
                      · go_wp2_with fail
                        go_meet
                        case rel => exact ⟨_, rfl, rfl, fun h => (by cases h), fun _ => ⟨hat58.out, hmkH.out⟩⟩
                      · go_wp2_with fail
                        all_goals go_meet
                        all_goals exact ⟨_, rfl, rfl, fun h => (by cases h), fun _ => ⟨hat58.out, hmkH.out⟩⟩
                    · have gm : (n : Int) - (k : Int) - 1 < (m : Int) := by omega
                      have hmkH := Lib.hid (show s.data.toList.length - k - 1 < m by rw [hslH.out, ← hnH.out]; omega)
                      clear hmk
                      rcases g48 with g48 | ⟨g1, g48⟩
                      · go_wp2_with fail
                        go_meet
                        case rel => exact ⟨_, rfl, rfl, fun _ => .inr (.inr (.inr (.inr hmkH.out))), fun h => (by cases h)⟩
                      · go_wp2_with fail
                        all_goals go_meet
                        all_goals exact ⟨_, rfl, rfl, fun _ => .inr (.inr (.inr (.inr hmkH.out))), fun h => (by cases h)⟩
                  · have g58 : ((b : Int) != 58) = true := by rw [bne_iff_ne]; omega
                    have hne58 := Lib.hid (show s.data.toList[k]? ≠ some 58 by
                      rw [hat.out]
                      intro e
                      exact h58 (by rw [hb.out, Option.some.inj e]; rfl))
                    replace h58 := Lib.hid h58
                    rcases g48 with g48 | ⟨g1, g48⟩
                    · go_wp2_with fail
                      go_meet
                      case rel => exact ⟨_, rfl, rfl, fun _ => .inr (.inr (.inr (.inl hne58.out))), fun h => (by cases h)⟩
                    · go_wp2_with fail
                      all_goals go_meet
                      all_goals exact ⟨_, rfl, rfl, fun _ => .inr (.inr (.inr (.inl hne58.out))), fun h => (by cases h)⟩
                · have hki : (n : Int) ≤ (k : Int) := by omega
                  have hklH := Lib.hid (show s.data.toList.length ≤ k by rw [hslH.out, ← hnH.out]; omega)
                  rcases g48 with g48 | ⟨g1, g48⟩
                  · go_wp2_with fail
                    go_meet
                    case rel => exact ⟨_, rfl, rfl, fun _ => .inr (.inr (.inl hklH.out)), fun h => (by cases h)⟩
                  · go_wp2_with fail
                    all_goals go_meet
                    all_goals exact ⟨_, rfl, rfl, fun _ => .inr (.inr (.inl hklH.out)), fun h => (by cases h)⟩
          case rest =>
            obtain ⟨bad, rfl, rfl, hbad⟩ := hcut
            cases bad with
            | true =>
              have hsp := Lib.hid (rtext_no (deep := deep) hIH.out he.out (hbad.1 rfl) h0H.out (by rw [hslH.out, ← hnH.out]; exact hsn) (.mk false [] []))
              clear hbad
              go_wp2_with fail
              (try simp only [Exit.inBlock, Exit.then])
              refine bodyPost_ret (results_cell_tmp2 rfl _ _ w.heap.size 52 #[.bool false, .string ⟨#[]⟩, .slice none 0 0] (0, 0) _ rfl (set3 hr0H.out) Tryz.underlying52 rfl (by kernel_rfl) _ _ rfl rfl) rfl ?_
              exact ritemPost_no hsp.out hb0H.out _ _ _
            | false =>
              obtain ⟨h58, hmk⟩ := hbad.2 rfl
              have hkn : k < n := by have := (List.getElem?_eq_some_iff.1 h58).1; rw [hslH.out, ← hnH.out] at this; exact this
              have hsp := Lib.hid (rtext_yes (deep := deep) hIH.out h58 hmk h0H.out (by rw [hslH.out, ← hnH.out]; exact hsn))
              rw [hslH.out, ← hnH.out] at hmk
              have i1 : (k : Int) + 1 + (m : Int) ≤ (n : Int) := by omega
              have i2 : (0 : Int) ≤ (k : Int) + 1 := by omega
              have i3 : (k : Int) + 1 ≤ (k : Int) + 1 + (m : Int) := by omega
              have v1 : IntKind.i64.wrap ((k : Int) + 1) = (k : Int) + 1 := IntWalk.i64_in _ (by omega)
              have v2 : IntKind.i64.wrap ((k : Int) + 1 + (m : Int)) = (k : Int) + 1 + (m : Int) := IntWalk.i64_in _ (by omega)
              have v3 : ((k : Int) + 1).toNat = k + 1 := by omega
              have v4 : ((k : Int) + 1 + (m : Int)).toNat = k + 1 + m := by omega
              have i4 : (0 : Int) ≤ (k : Int) + 1 + (m : Int) := by omega
              have i5 : (k : Int) + 1 + (m : Int) ≤ (s.size : Int) := by omega
              clear hbad h58 he
              go_upto_region 23 with fail
              go_region_held3 (fun W => True) (exact trivial) ((go_at_call 29; with_reducible refine (rtext_c _ _).mono ?_; rintro ev w3 ⟨rfl, hb3⟩; obtain ⟨z0, z1, z2, zsh, zfz⟩ := blk3 ((hb3.block _ (heap_lt hr0H.out)).trans hr0H.out); unfold vtext; replace hb3 := Lib.hid hb3))
              clear v1 v2 v3 v4
              go_wp2_with fail
              (try simp only [Exit.inBlock, Exit.then])
              have hr3 : w3.heap[w.heap.size]? = some (.cells #[.bool false, .string ⟨#[]⟩, .slice none 0 0] 52 (0, 0)) := (hb3.out.block _ (heap_lt hr0H.out)).trans hr0H.out
              refine bodyPost_ret (results_cell_tmp2 rfl _ _ w.heap.size 52 #[.bool false, .string (s.extract (k + 1) (k + 1 + m)), .slice none 0 0] (0, 0) _ rfl (set3 hr3) Tryz.underlying52 rfl (by kernel_rfl) _ _ rfl rfl) rfl ?_
              have e1 : (s.extract (k + 1) (k + 1 + m)).data.toList = (s.data.toList.drop (k + 1)).take m := by rw [Lib.extract_data]; congr 1; omega
              have hb4 : Below w.heap.size w w3 := hb0H.out.trans (((Below.refl w.heap.size wc).drew).trans (Below.mono (w := wc.drew) hb3.out hb0H.out.size))
              exact ⟨txt ((s.data.toList.drop (k + 1)).take m), _, _, _, true, s.extract (k + 1 + m) s.size, rfl, by rw [← e1]; exact FK.text _ _ _, by rw [extract_toList]; exact hsp.out, ((hb4.setCell (Nat.le_refl _) _).setCell (Nat.le_refl _) _).setCell (Nat.le_refl _) _⟩
end Go.Proofs.YtbefkoljcacpcaaGreatDoor.Tm
set_option linter.unusedVariables false
set_option linter.unusedSimpArgs false
namespace Go.Proofs.YtbefkoljcacpcaaGreatDoor.Wi
open Go Go.RowKit Go.Proofs.YtbefkoljcacpcaaGreatDoorW.PrintWords Go.Proofs.YtbefkoljcacpcaaGreatDoor.B Go.Proofs.YtbefkoljcacpcaaGreatDoor.Dig
set_option maxRecDepth 100000 in
theorem number17 (x : Int) (w : World) : Calls Tryz.prog 55 #[.int .i64 x] w fun ev w' => ev = .returned (.bool (decide (0 ≤ x) && decide (x ≤ 2147483647))) ∧ w' = w := by
  by_cases h : 0 ≤ x
  · rw [decide_eq_true h, Bool.true_and]
    go_enter Tryz.func55, Tryz.ntmps55
    go_wp2_with fail
    go_ret
    exact ⟨rfl, rfl⟩
  · rw [decide_eq_false h, Bool.false_and]
    go_enter Tryz.func55, Tryz.ntmps55
    go_wp2_with fail
    go_ret
    exact ⟨rfl, rfl⟩
theorem num_ok (x : Int) (h : 0 ≤ x) (h' : x ≤ 2147483647) (w : World) : Calls Tryz.prog 55 #[.int .i64 x] w fun ev w' => ev = .returned (.bool true) ∧ w' = w := by
  have := number17 x w
  rwa [decide_eq_true h, decide_eq_true h'] at this
theorem num_no (x : Int) (h : ¬ (0 ≤ x ∧ x ≤ 2147483647)) (w : World) : Calls Tryz.prog 55 #[.int .i64 x] w fun ev w' => ev = .returned (.bool false) ∧ w' = w := by
  have := number17 x w
  rwa [← Bool.decide_and, decide_eq_false h] at this
theorem apart_no {v0 v1 v2 v3 v4 v5 : Int} {l : List ByteArray} {p : ByteArray} (h : v0 = v1) : wright [v0, v1, v2, v3, v4, v5] l p = false := by
  unfold wright
  have e : decide (([v0, v1, v2, v3, v4, v5] : List Int).getD 0 0 = ([v0, v1, v2, v3, v4, v5] : List Int).getD 1 0) = true := decide_eq_true h
  rw [e, Bool.not_true, Bool.false_and, Bool.and_false]
theorem three_no {v0 v1 v2 v3 v4 v5 : Int} {l : List ByteArray} {p : ByteArray} (h : ((!decide (v2 = 1) && decide (0 < l.length)) || (!decide (v2 = 2) && !decide (p.toList = [])) || decide (128 < l.length)) = true) : wright [v0, v1, v2, v3, v4, v5] l p = false := by
  unfold wright
  rw [Bool.and_eq_false_iff]; right
  rw [Bool.and_eq_false_iff]; right
  show (if v2 = 1 then decide (p.toList = []) && namesOk l
     else if v2 = 2 then decide (l.length = 0) && (!decide (p.toList = []) && decide (p.size ≤ 12000))
     else if v2 = 3 ∨ v2 = 4 then decide (p.toList = []) && decide (l.length = 0) else false) = false
  simp only [Bool.or_eq_true, Bool.and_eq_true, Bool.not_eq_true', decide_eq_true_eq, decide_eq_false_iff_not] at h
  have hz : 128 < l.length → namesOk l = false := by intro h; unfold namesOk; rw [decide_eq_false (by omega), Bool.and_false]
  by_cases z1 : v2 = 1
  · subst z1
    rw [if_pos rfl]
    rcases h with (⟨h, _⟩ | ⟨_, h⟩) | h
    · exact absurd rfl h
    · rw [decide_eq_false h, Bool.false_and]
    · rw [hz h, Bool.and_false]
  · rw [if_neg z1]
    by_cases z2 : v2 = 2
    · subst z2
      rw [if_pos rfl]
      rcases h with (⟨_, h⟩ | ⟨h, _⟩) | h
      · rw [decide_eq_false (show ¬ l.length = 0 by omega), Bool.false_and]
      · exact absurd rfl h
      · rw [decide_eq_false (show ¬ l.length = 0 by omega), Bool.false_and]
    · rw [if_neg z2]
      split
      · rcases h with (⟨_, h⟩ | ⟨_, h⟩) | h
        · rw [decide_eq_false (show ¬ l.length = 0 by omega), Bool.and_false]
        · rw [decide_eq_false h, Bool.false_and]
        · rw [decide_eq_false (show ¬ l.length = 0 by omega), Bool.and_false]
      · rfl
theorem good_end {v0 v1 v2 v3 v4 v5 : Int} {l : List ByteArray} {p : ByteArray} (h01 : ¬ v0 = v1) (h0 : 0 ≤ v0 ∧ v0 ≤ 7) (h1 : 0 ≤ v1 ∧ v1 ≤ 7) (h3 : 0 ≤ v3 ∧ v3 ≤ 2147483647) (h4 : 0 ≤ v4 ∧ v4 ≤ 2147483647) (h5 : 0 ≤ v5 ∧ v5 ≤ 2147483647)
    (h : ((!decide (v2 = 1) && decide (0 < l.length)) || (!decide (v2 = 2) && !decide (p.toList = [])) || decide (128 < l.length)) = false) (hn : namesOk l = decide (l.length ≤ 128)) :
    wright [v0, v1, v2, v3, v4, v5] l p = (decide (1 ≤ v2) && (decide (v2 ≤ 4) && (!decide (v2 = 2) || (!decide (p.toList = []) && decide (p.size ≤ 12000))))) := by
  simp only [Bool.or_eq_false_iff, Bool.and_eq_false_iff, Bool.not_eq_false', decide_eq_true_eq, decide_eq_false_iff_not] at h
  obtain ⟨⟨ha, hb⟩, hc⟩ := h
  have e : wright [v0, v1, v2, v3, v4, v5] l p = (numsOk [v0, v1, v2, v3, v4, v5] && (!decide (v0 = v1) && (if v2 = 1 then decide (p.toList = []) && namesOk l
     else if v2 = 2 then decide (l.length = 0) && (!decide (p.toList = []) && decide (p.size ≤ 12000))
     else if v2 = 3 ∨ v2 = 4 then decide (p.toList = []) && decide (l.length = 0) else false))) := rfl
  have en : numsOk [v0, v1, v2, v3, v4, v5] = decide (0 ≤ v2 ∧ v2 ≤ 4) := by
    have e2 : numsOk [v0, v1, v2, v3, v4, v5] = ((decide (0 ≤ v0) && decide (v0 ≤ 7)) && ((decide (0 ≤ v1) && decide (v1 ≤ 7)) && ((decide (0 ≤ v2) && decide (v2 ≤ 4)) && ((decide (0 ≤ v3) && decide (v3 ≤ 2147483647)) && ((decide (0 ≤ v4) && decide (v4 ≤ 2147483647)) && ((decide (0 ≤ v5) && decide (v5 ≤ 2147483647)) && true)))))) := rfl
    rw [e2]
    simp [h0.1, h0.2, h1.1, h1.2, h3.1, h3.2, h4.1, h4.2, h5.1, h5.2]
  rw [e, en, decide_eq_false h01, hn, decide_eq_true (show l.length ≤ 128 by omega)]
  by_cases z1 : v2 = 1
  · subst z1
    have hp : p.toList = [] := by rcases hb with h | h; exact absurd h (by decide); exact h
    simp [hp]
  · have hl : l.length = 0 := by rcases ha with h | h; exact absurd h z1; omega
    by_cases z2 : v2 = 2
    · subst z2
      simp [hl]
    · have hp : p.toList = [] := by rcases hb with h | h; exact absurd h z2; exact h
      by_cases z3 : v2 = 3
      · subst z3; simp [hp, hl]
      · by_cases z4 : v2 = 4
        · subst z4; simp [hp, hl]
        · rw [if_neg z1, if_neg z2, if_neg (by rintro (h | h); exact z3 h; exact z4 h)]
          have : ¬ (1 ≤ v2 ∧ v2 ≤ 4) := by omega
          by_cases k1 : 1 ≤ v2
          · rw [decide_eq_false (show ¬ v2 ≤ 4 by omega)]; simp
          · rw [decide_eq_false k1]; simp
theorem bad_at {v : List Int} {l : List ByteArray} {p : ByteArray} (k : Nat) (hk : k < 6) (h : ¬ (0 ≤ v.getD k 0 ∧ v.getD k 0 ≤ lim k)) : wright v l p = false :=
  wright_bad hk (by unfold numOk; rw [← Bool.decide_and]; exact decide_eq_false h)
theorem keepc {w w' : World} {p : Addr} {v : Value} (h : Below w.heap.size w w') (hc : w.cell? p = some v) : w'.cell? p = some v := (h.cell (World.block_lt_of_cell? w p hc)).trans hc
theorem wright_names {v0 v1 v2 v3 v4 v5 : Int} {l : List ByteArray} {p : ByteArray} {k : Nat} (h : v2 = 1) (hk : k < l.length) (hb : okAt l k = false) : wright [v0, v1, v2, v3, v4, v5] l p = false := by
  unfold wright
  show (_ && (_ && (if v2 = 1 then _ else _))) = false
  rw [if_pos h, namesOk_bad hk hb, Bool.and_false, Bool.and_false, Bool.and_false]
set_option maxRecDepth 100000 in
set_option maxHeartbeats 8000000 in
theorem right17_c (v0 v1 v2 v3 v4 v5 : Int) (A : Option Addr) (c : Nat) (l : List ByteArray) (p : ByteArray) (w : World) (hC : Kd.C Kd.string w A l.length l) (hc : l.length ≤ c) (hn : l.length ≤ 1000000000000) (hs : ∀ x ∈ l, x.size ≤ 140737488351232) :
    Calls Tryz.prog 28 #[.agg (letCells v0 v1 v2 v3 v4 v5 A l.length c p)] w fun ev w' => ev = .returned (.bool (wright [v0, v1, v2, v3, v4, v5] l p)) ∧ Below w.heap.size w w' := by
  obtain ⟨w1, hw1⟩ : ∃ w1, w1 = w.alloc (.cells (letCells v0 v1 v2 v3 v4 v5 A l.length c p) 24) := ⟨_, rfl⟩
  have hb1 : Below w.heap.size w w1 := by rw [hw1]; exact (Below.refl _ _).alloc (Nat.le_refl _) _
  have hg : w1.heap[w.heap.size]? = some (.cells (letCells v0 v1 v2 v3 v4 v5 A l.length c p) 24 (0, 0)) := by rw [hw1]; exact heap_alloc_at _ _
  obtain ⟨g, hgs⟩ : ∃ g, g = w.heap.size := ⟨_, rfl⟩
  rw [← hgs] at hg hb1 ⊢
  have hgH := Lib.hid hg
  have hb1H := Lib.hid hb1
  have hw1' := hw1
  have hCH := Lib.hid hC
  unfold letCells at hw1' ⊢
  have c0 : w1.cell? ⟨g, 0, none⟩ = some (.int .i64 v0) := by rw [cell_of hg]; rfl
  have c1 : w1.cell? ⟨g, 1, none⟩ = some (.int .i64 v1) := by rw [cell_of hg]; rfl
  have c2 : w1.cell? ⟨g, 2, none⟩ = some (.int .i64 v2) := by rw [cell_of hg]; rfl
  have c3 : w1.cell? ⟨g, 3, none⟩ = some (.int .i64 v3) := by rw [cell_of hg]; rfl
  have c4 : w1.cell? ⟨g, 4, none⟩ = some (.int .i64 v4) := by rw [cell_of hg]; rfl
  have c5 : w1.cell? ⟨g, 5, none⟩ = some (.int .i64 v5) := by rw [cell_of hg]; rfl
  have c6 : w1.cell? ⟨g, 6, none⟩ = some (.slice A l.length c) := by rw [cell_of hg]; rfl
  have c7 : w1.cell? ⟨g, 7, none⟩ = some (.string p) := by rw [cell_of hg]; rfl
  obtain ⟨n, hN⟩ : ∃ n, n = l.length := ⟨_, rfl⟩
  rw [← hN] at hc hn hw1' c6 ⊢
  replace hN := Lib.hid hN
  clear hC hg hb1 hw1
  obtain ⟨r, hr⟩ : ∃ r, r = wright [v0, v1, v2, v3, v4, v5] l p := ⟨_, rfl⟩
  rw [← hr]
  replace hr := Lib.hid hr
  go_enter Tryz.func28, Tryz.ntmps28
  go_upto_region 1 with fail
  rw [← hgs, ← hw1']
  replace hw1 := Lib.hid hw1'
  replace hgs := Lib.hid hgs
  clear hw1'
  by_cases q0 : v0 < 0
  · have hrf := Lib.hid (show r = false by rw [hr.out]; exact bad_at 0 (by omega) (by show ¬ (0 ≤ v0 ∧ v0 ≤ 7); omega))
    go_wp2_with fail
    go_ret
    exact ⟨by rw [hrf.out]; rfl, hb1H.out⟩
  by_cases q1 : 7 < v0
  · have hrf := Lib.hid (show r = false by rw [hr.out]; exact bad_at 0 (by omega) (by show ¬ (0 ≤ v0 ∧ v0 ≤ 7); omega))
    go_wp2_with fail
    go_ret
    exact ⟨by rw [hrf.out]; rfl, hb1H.out⟩
  by_cases q2 : v1 < 0
  · have hrf := Lib.hid (show r = false by rw [hr.out]; exact bad_at 1 (by omega) (by show ¬ (0 ≤ v1 ∧ v1 ≤ 7); omega))
    go_wp2_with fail
    go_ret
    exact ⟨by rw [hrf.out]; rfl, hb1H.out⟩
  by_cases q3 : 7 < v1
  · have hrf := Lib.hid (show r = false by rw [hr.out]; exact bad_at 1 (by omega) (by show ¬ (0 ≤ v1 ∧ v1 ≤ 7); omega))
    go_wp2_with fail
    go_ret
    exact ⟨by rw [hrf.out]; rfl, hb1H.out⟩
  by_cases q4 : v0 = v1
  · have hrf := Lib.hid (show r = false by rw [hr.out]; exact apart_no q4)
    go_wp2_with fail
    go_ret
    exact ⟨by rw [hrf.out]; rfl, hb1H.out⟩
  by_cases q5 : ¬ (0 ≤ v3 ∧ v3 ≤ 2147483647)
  · have hrf := Lib.hid (show r = false by rw [hr.out]; exact bad_at 3 (by omega) (by show ¬ (0 ≤ v3 ∧ v3 ≤ 2147483647); omega))
    go_wp2_with fail
    refine (num_no v3 q5 _).mono ?_
    rintro ev w2 ⟨rfl, rfl⟩
    go_wp2_with fail
    go_ret
    exact ⟨by rw [hrf.out]; rfl, hb1H.out⟩
  replace q5 := Classical.not_not.1 q5
  by_cases q6 : ¬ (0 ≤ v4 ∧ v4 ≤ 2147483647)
  · have hrf := Lib.hid (show r = false by rw [hr.out]; exact bad_at 4 (by omega) (by show ¬ (0 ≤ v4 ∧ v4 ≤ 2147483647); omega))
    go_wp2_with fail
    refine (num_ok v3 q5.1 q5.2 _).mono ?_
    rintro ev w2 ⟨rfl, rfl⟩
    go_wp2_with fail
    refine (num_no v4 q6 _).mono ?_
    rintro ev w2 ⟨rfl, rfl⟩
    go_wp2_with fail
    go_ret
    exact ⟨by rw [hrf.out]; rfl, hb1H.out⟩
  replace q6 := Classical.not_not.1 q6
  by_cases q7 : ¬ (0 ≤ v5 ∧ v5 ≤ 2147483647)
  · have hrf := Lib.hid (show r = false by rw [hr.out]; exact bad_at 5 (by omega) (by show ¬ (0 ≤ v5 ∧ v5 ≤ 2147483647); omega))
    go_wp2_with fail
    refine (num_ok v3 q5.1 q5.2 _).mono ?_
    rintro ev w2 ⟨rfl, rfl⟩
    go_wp2_with fail
    refine (num_ok v4 q6.1 q6.2 _).mono ?_
    rintro ev w2 ⟨rfl, rfl⟩
    go_wp2_with fail
    refine (num_no v5 q7 _).mono ?_
    rintro ev w2 ⟨rfl, rfl⟩
    go_wp2_with fail
    go_ret
    exact ⟨by rw [hrf.out]; rfl, hb1H.out⟩
  replace q7 := Classical.not_not.1 q7
  go_upto_region 3 with fail
  refine (num_ok v3 q5.1 q5.2 _).mono ?_
  rintro ev w2 ⟨rfl, rfl⟩
  go_upto_region 3 with fail
  refine (num_ok v4 q6.1 q6.2 _).mono ?_
  rintro ev w2 ⟨rfl, rfl⟩
  go_upto_region 3 with fail
  refine (num_ok v5 q7.1 q7.2 _).mono ?_
  rintro ev w2 ⟨rfl, rfl⟩
  go_upto_region 3 with fail
  go_cut [71] (fun v wc => v = .bool ((!decide (v2 = 1) && decide (0 < n)) || (!decide (v2 = 2) && !decide (p.toList = [])) || decide (128 < n)) ∧ wc = w2)
  case first =>
    have e128 : decide ((128 : Int) < (n : Int)) = decide (128 < n) := by rw [decide_eq_decide]; omega
    by_cases z1 : v2 = 1
    · subst z1
      by_cases zp : p.toList = []
      · go_wp2_with fail
        go_meet
        case rel => exact ⟨by simp [zp], rfl⟩
      · go_wp2_with fail
        go_meet
        case rel => exact ⟨by simp [zp], rfl⟩
    · by_cases zn : 0 < n
      · have zn' : (0 : Int) < (n : Int) := by omega
        go_wp2_with fail
        go_meet
        case rel => exact ⟨by simp [z1, zn], rfl⟩
      · have zn' : ¬ (0 : Int) < (n : Int) := by omega
        by_cases z2 : v2 = 2
        · subst z2
          go_wp2_with fail
          go_meet
          case rel => exact ⟨by simp [zn], rfl⟩
        · by_cases zp : p.toList = []
          · go_wp2_with fail
            go_meet
            case rel => exact ⟨by simp [zn, zp], rfl⟩
          · go_wp2_with fail
            go_meet
            case rel => exact ⟨by simp [zp, z2], rfl⟩
  case rest =>
    obtain ⟨rfl, rfl⟩ := hcut
    obtain ⟨b3, hb3⟩ : ∃ b3, b3 = ((!decide (v2 = 1) && decide (0 < n)) || (!decide (v2 = 2) && !decide (p.toList = [])) || decide (128 < n)) := ⟨_, rfl⟩
    rw [← hb3]
    cases b3 with
    | true =>
      have hrf := Lib.hid (show r = false by rw [hr.out]; exact three_no (by rw [← hN.out]; exact hb3.symm))
      clear hb3
      go_wp2_with fail
      go_ret
      exact ⟨by rw [hrf.out]; rfl, hb1H.out⟩
    | false =>
      replace hb3 := Lib.hid hb3
      go_wp2_with fail
      go_loopg [3] n (fun g' i W => ∃ k : Nat, g' = n - k ∧ k ≤ n ∧ i = .int .i64 k ∧ (∀ j, j < k → okAt l j = true) ∧ Below wc.heap.size wc W)
      case atStart => exact ⟨0, rfl, by omega, rfl, fun j hj => absurd hj (by omega), Below.refl _ _⟩
      case round =>
        obtain ⟨k, hg', hk, rfl, hok, hb⟩ := hrel
        subst hg'
        have hlet := (hb.block _ (heap_lt hgH.out)).trans hgH.out
        have d2 : wr.cell? ⟨g, 2, none⟩ = some (.int .i64 v2) := by rw [cell_of hlet]; rfl
        have d6 : wr.cell? ⟨g, 6, none⟩ = some (.slice A n c) := by rw [cell_of hlet, hN.out]; rfl
        have d7 : wr.cell? ⟨g, 7, none⟩ = some (.string p) := by rw [cell_of hlet]; rfl
        have hbH := Lib.hid (hb1H.out.trans (hb.mono (Nat.le_of_lt (heap_lt hgH.out))))
        have hbH' := Lib.hid hb
        by_cases hkn : k < n
        · have hki : (k : Int) < (n : Int) := by omega
          have hkl : k < l.length := by rw [← hN.out]; exact hkn
          have hv1 : v2 = 1 := by
            by_cases h : v2 = 1
            · exact h
            · have h2 := hb3.out
              rw [decide_eq_false h, decide_eq_true (show 0 < n by omega)] at h2
              simp at h2
          have hv1H := Lib.hid hv1
          clear hv1
          obtain ⟨b, o, rfl, hcell⟩ := str_cell (Kd.C_below hCH.out (by rw [← hgs.out]; exact hbH.out)) k hkl
          have hx := hs _ (getD_mem' l k ByteArray.empty hkl)
          have CR := fun W => Lib.hid (rightRef (l.getD k ByteArray.empty) W hx)
          have hok2 : okAt l k = (rightL (l.getD k ByteArray.empty).data.toList && (decide (k = 0) || Op.bytesLess (l.getD (k - 1) ByteArray.empty).toList (l.getD k ByteArray.empty).toList)) := rfl
          have hbad := Lib.hid (fun h => hr.out.trans (wright_names (p := p) hv1H.out hkl h))
          have hprev : k ≠ 0 → wr.cell? ⟨b, o + (k - 1), none⟩ = some (.string (l.getD (k - 1) ByteArray.empty)) := by
            intro h0
            obtain ⟨b1, o1, hA, hcell1⟩ := str_cell (Kd.C_below hCH.out (by rw [← hgs.out]; exact hbH.out)) (k - 1) (by omega)
            injection hA with hA
            injection hA with hA1 hA2 _
            subst hA1 hA2
            exact hcell1
          generalize l.getD k ByteArray.empty = x at *
          generalize hrx : rightL x.data.toList = rx at *
          clear hrx hx
          replace hprev := Lib.hid hprev
          have hokH := Lib.hid hok
          have hlt1 := heap_lt hlet
          have hgw := Lib.hid (Nat.le_of_lt hlt1)
          clear hb hok hlet
          have hA := Lib.hid d6
          have hB := Lib.hid hcell
          cases rx with
          | false =>
            have hbd := Lib.hid (hbad.out hok2)
            clear hbad hok2 hprev
            go_upto_region 8 with fail
            have hA3 := Lat.cell hA.out
            have hB3 := Lat.cell hB.out
            have hp3 := trivial
            refine wp_region_lat (by kernel_rfl) (by kernel_rfl) ?_
            repeat (go_big_quiet_step ((go_at_call 56; exact lat_of (CR _).out)))
            refine wpQuiet_nil ?_
            intro _ hw'
            obtain ⟨xl, hw''⟩ := hw'
            subst hw''
            have hb4 := Lib.hid xl.below
            clear hA3 hB3 hp3
            go_wp2_with fail
            go_ret
            exact ⟨by rw [hbd.out]; rfl, hbH.out.trans (hb4.out.mono hgw.out)⟩
          | true =>
            by_cases hk0 : k = 0
            · subst hk0
              have hki0 : ¬ (0 : Int) < ((0 : Nat) : Int) := by omega
              have hko : okAt l 0 = true := by rw [hok2]; rfl
              have hkoH := Lib.hid hko
              clear hko hok2 hbad hprev
              go_upto_region 8 with fail
              have hA3 := Lat.cell hA.out
              have hB3 := Lat.cell (show wr.cell? ⟨b, o, none⟩ = some (.string x) from hB.out)
              have hp3 := trivial
              refine wp_region_lat (by kernel_rfl) (by kernel_rfl) ?_
              repeat (go_big_quiet_step ((go_at_call 56; exact lat_of (CR _).out)))
              refine wpQuiet_nil ?_
              intro _ hw'
              obtain ⟨xl, hw''⟩ := hw'
              subst hw''
              have hb4 := Lib.hid xl.below
              clear hA3 hB3 hp3
              all_goals (try go_wp2_with fail)
              go_roundg (n - 1)
              case measure => omega
              case rel => exact ⟨1, rfl, by omega, by go_num, fun j hj => by rw [show j = 0 from by omega]; exact hkoH.out, hbH'.out.trans (hb4.out.mono hbH'.out.size)⟩
            · have hki0 : (0 : Int) < (k : Int) := by omega
              have hkp0 : 0 < k := by omega
              have hkw : IntKind.i64.wrap ((k : Int) - 1) = ((k - 1 : Nat) : Int) := by rw [show (k : Int) - 1 = ((k - 1 : Nat) : Int) from by omega]; exact Lib.wrap_i64_small _ (by omega)
              have hk1 : ((k - 1 : Nat) : Int) < (n : Int) := by omega
              have hp := Lib.hid (hprev.out hk0)
              generalize l.getD (k - 1) ByteArray.empty = y at *
              rw [decide_eq_false hk0, Bool.false_or, Bool.true_and] at hok2
              have hle := le_lt x.toList y.toList
              obtain ⟨lt, hlt⟩ : ∃ lt, lt = Op.bytesLess y.toList x.toList := ⟨_, rfl⟩
              rw [← hlt] at hok2 hle
              replace hlt := Lib.hid hlt
              have hok2H := Lib.hid hok2
              clear hok2 hprev
              cases lt with
              | true =>
                simp only [Bool.not_true] at hle
                go_upto_region 8 with fail
                have hA3 := Lat.cell hA.out
                have hB3 := Lat.cell hB.out
                have hp3 := Lat.cell hp.out
                refine wp_region_lat (by kernel_rfl) (by kernel_rfl) ?_
                repeat (go_big_quiet_step ((go_at_call 56; exact lat_of (CR _).out)))
                refine wpQuiet_nil ?_
                intro _ hw'
                obtain ⟨xl, hw''⟩ := hw'
                subst hw''
                have hb4 := Lib.hid xl.below
                clear hA3 hB3 hp3
                all_goals (try go_wp2_with fail)
                all_goals go_roundg (n - (k + 1))
                all_goals first | omega | exact ⟨k + 1, rfl, by omega, by go_num, fun j hj => by by_cases h : j < k; exact hokH.out j h; rw [show j = k from by omega]; exact hok2H.out, hbH'.out.trans (hb4.out.mono hbH'.out.size)⟩
              | false =>
                simp only [Bool.not_false] at hle
                have hbd := Lib.hid (hbad.out hok2H.out)
                go_upto_region 8 with fail
                have hA3 := Lat.cell hA.out
                have hB3 := Lat.cell hB.out
                have hp3 := Lat.cell hp.out
                refine wp_region_lat (by kernel_rfl) (by kernel_rfl) ?_
                repeat (go_big_quiet_step ((go_at_call 56; exact lat_of (CR _).out)))
                refine wpQuiet_nil ?_
                intro _ hw'
                obtain ⟨xl, hw''⟩ := hw'
                subst hw''
                have hb4 := Lib.hid xl.below
                clear hA3 hB3 hp3
                all_goals (try go_wp2_with fail)
                all_goals go_ret
                all_goals exact ⟨by rw [hbd.out]; rfl, hbH.out.trans (hb4.out.mono hgw.out)⟩
        · have hkn' : k = n := by omega
          subst hkn'
          have hall : namesOk l = decide (l.length ≤ 128) := namesOk_good (by rw [← hN.out]; exact hok)
          have hre := Lib.hid (show r = (decide (1 ≤ v2) && (decide (v2 ≤ 4) && (!decide (v2 = 2) || (!decide (p.toList = []) && decide (p.size ≤ 12000))))) from hr.out.trans (good_end q4 ⟨q0, q1⟩ ⟨q2, q3⟩ q5 q6 q7 (by rw [← hN.out]; exact hb3.out.symm) hall))
          clear hok hb hlet hall
          by_cases e1 : 1 ≤ v2
          · by_cases e4 : v2 ≤ 4
            · by_cases e2 : v2 = 2
              · subst e2
                by_cases ep : p.toList = []
                · have hf := Lib.hid (show r = false by rw [hre.out]; simp [ep])
                  go_wp2_with fail
                  go_ret
                  exact ⟨by rw [hf.out]; rfl, hbH.out⟩
                · have es : decide ((p.size : Int) ≤ 12000) = decide (p.size ≤ 12000) := by rw [decide_eq_decide]; omega
                  have hf := Lib.hid (show r = (!p.toList.isEmpty && decide (p.size ≤ 12000)) by rw [hre.out]; simp [ep])
                  go_wp2_with fail
                  go_ret
                  exact ⟨by rw [hf.out]; rfl, hbH.out⟩
              · have hf := Lib.hid (show r = true by rw [hre.out, decide_eq_true e1, decide_eq_true e4, decide_eq_false e2]; rfl)
                go_wp2_with fail
                go_ret
                exact ⟨by rw [hf.out]; rfl, hbH.out⟩
            · have hf := Lib.hid (show r = false by rw [hre.out, decide_eq_false e4, Bool.false_and, Bool.and_false])
              go_wp2_with fail
              go_ret
              exact ⟨by rw [hf.out]; rfl, hbH.out⟩
          · have hf := Lib.hid (show r = false by rw [hre.out, decide_eq_false e1, Bool.false_and])
            go_wp2_with fail
            go_ret
            exact ⟨by rw [hf.out]; rfl, hbH.out⟩
end Go.Proofs.YtbefkoljcacpcaaGreatDoor.Wi
