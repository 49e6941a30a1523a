/- The walk of tambourlaw03.DigestApart: both digests are the one function of the text: whatever the text is turned to. -/
import Derived.Test.YtpecclcihefbaaaShaH
import Derived.Test.YtpecclcihefbaaaRefS
import Derived.Lib.ConvBytes
import Derived.Deep.RegionLaw
import Derived.Deep.DeepCutAuto
import Derived.Laws.BitsLemmas
import Derived.RegionTactic
import Derived.OpenShut
set_option linter.unusedVariables false
set_option linter.unusedSimpArgs false
namespace Go.Proofs.Ytpecclcihefbaaa.Apart
open Go.RowKit Go.Proofs.Ytpecclcihefbaaa.B Go.Proofs.Ytpecclcihefbaaa.Sha Go.Proofs.Ytpecclcihefbaaa.Ref

/-- A new row that holds a text's bytes. -/
def Row (w wc : World) (l : List UInt8) (n : Nat) (v : Value) : Prop :=
  ∃ g cap, v = .slice (some ⟨g, 0, none⟩) n cap ∧ l.length = n ∧ w.heap.size ≤ g ∧ (∀ k, k < n → wc.cell? ⟨g, k, none⟩ = some (.int .u8 ((l.getD k 0).toNat : Int)) ∧ wc.frozen? ⟨g, k, none⟩ = false) ∧ Tch (fun _ => False) w wc

theorem row_of (w wb : World) (s : ByteArray) (hb : Tch (fun _ => False) w wb) : ∃ cap w1, (convert 9 41 (.string s)).run Try.prog wb = .ok (.slice (some ⟨wb.heap.size, 0, none⟩) s.size cap) w1 ∧
    Row w w1 s.data.toList s.size (.slice (some ⟨wb.heap.size, 0, none⟩) s.size cap) := by
  obtain ⟨cap, w1, cells, fz, h1, h2, h3, h4, h5, h6, h7, h8, _, _⟩ := bytes_of wb s
  refine ⟨cap, w1, h1, _, cap, rfl, by simp, hb.size, fun k hk => ⟨?_, h8 k (by omega)⟩, hb.trans (Tch.of_new h2)⟩
  rw [cell_of h4, ← Array.getElem?_toList]
  have : (cells.toList.take s.size)[k]? = (bc s.data.toList)[k]? := by rw [h7]
  rw [List.getElem?_take, if_pos hk] at this
  rw [this, bc_get _ k (by simpa using hk), List.getD_eq_getElem?_getD, List.getElem?_eq_getElem (by simpa using hk)]
  rfl

theorem byte_of (x : Int) (h0 : 0 ≤ x) (h1 : x ≤ 255) : ∃ c : UInt8, x = (c.toNat : Int) := by
  refine ⟨UInt8.ofNat x.toNat, ?_⟩
  rw [UInt8.toNat_ofNat']
  omega

/-- A byte of the row is another one: it holds the bytes of a text still. -/
theorem row_set {w wc : World} {l : List UInt8} {n g cap i : Nat} (h : Row w wc l n (.slice (some ⟨g, 0, none⟩) n cap)) (x : Int) (hx : (Lit.int .u8 x).wf = true) (m : Nat) :
    ∃ l', Row w ((wc.setCell ⟨g, i, none⟩ (.int .u8 x)).drewN m) l' n (.slice (some ⟨g, 0, none⟩) n cap) := by
  obtain ⟨g', cap', hv, hl, hg, hc, ht⟩ := h
  injection hv with e1 e2 e3
  injection e1 with e1
  injection e1 with e1
  subst e1
  have hb := bounds_u8 hx
  obtain ⟨c, rfl⟩ := byte_of x hb.1 hb.2
  refine ⟨l.set i c, g, cap, rfl, by simp [hl], hg, fun k hk => ⟨?_, ?_⟩, (ht.setNew _ hg _).drewN m⟩
  · rw [World.cell?_drewN]
    by_cases e : i = k
    · subst e
      rw [World.cell?_setCell_same _ _ _ (hc _ hk).1]
      simp [List.getD_eq_getElem?_getD, hl, hk]
    · rw [World.cell?_setCell_other _ _ _ _ (by intro h; injection h with _ h; exact e h), (hc k hk).1]
      simp only [List.getD_eq_getElem?_getD]
      rw [List.getElem?_set_ne e]
  · rw [World.frozen?_drewN, World.frozen?_setCell]
    exact (hc k hk).2

theorem Row.len {w wc : World} {l : List UInt8} {n : Nat} {v : Value} (h : Row w wc l n v) : l.length = n := by
  obtain ⟨g, cap, rfl, hl, hg, hc, ht⟩ := h; exact hl
theorem Row.tch {w wc : World} {l : List UInt8} {n : Nat} {v : Value} (h : Row w wc l n v) : Tch (fun _ => False) w wc := by
  obtain ⟨g, cap, rfl, hl, hg, hc, ht⟩ := h; exact ht
theorem Row.keep {w wc wd : World} {l : List UInt8} {n : Nat} {v : Value} (h : Row w wc l n v) (k : Tch (fun _ => False) wc wd) : Row w wd l n v := by
  obtain ⟨g, cap, rfl, hl, hg, hc, ht⟩ := h
  refine ⟨g, cap, rfl, hl, hg, fun j hj => ⟨k.cell (hc j hj).1 (fun e => e), ?_⟩, ht.trans k⟩
  rw [← (hc j hj).2]
  exact World.frozen?_of_block (k.block _ (World.block_lt_of_cell? _ _ (hc j hj).1) (fun e => e))
theorem row_conv {w wc : World} {l : List UInt8} {n : Nat} {v : Value} (h : Row w wc l n v) : (convert 41 9 v).run Try.prog wc = .ok (.string ⟨l.toArray⟩) wc := by
  obtain ⟨g, cap, rfl, hl, hg, hc, ht⟩ := h
  subst hl
  refine run_convert_bytes_back _ 41 9 5 _ cap l Try.underlying41 Try.underlying5 Try.underlying9 fun j hj => ?_
  rw [add0, (hc j hj).1, List.getD_eq_getElem?_getD, List.getElem?_eq_getElem hj]
  rfl

theorem skip (s : ByteArray) (a bit : Int) (w : World) (h : 2000 < s.size ∨ a < 0 ∨ (s.size : Int) ≤ a) :
    Calls Try.prog 5 #[.string s, .int .i64 a, .int .i64 bit] w fun e w' => e = .returned (.bool true) ∧ Tch (fun _ => False) w w' := by
  have hC := Lib.hid (awake03 w)
  by_cases h1 : 2000 < s.size
  · go_enter Try.func5, Try.ntmps5
    go_wp2_with (go_at_call 15; refine (hC.out).mono ?_; rintro e w1 ⟨rfl, h1⟩; have h1 := Lib.hid h1)
    go_ret
    exact ⟨rfl, h1.out⟩
  by_cases h2 : a < 0
  · go_enter Try.func5, Try.ntmps5
    go_wp2_with (go_at_call 15; refine (hC.out).mono ?_; rintro e w1 ⟨rfl, h1⟩; have h1 := Lib.hid h1)
    go_ret
    exact ⟨rfl, h1.out⟩
  have h3 : (s.size : Int) ≤ a := by omega
  clear h
  go_enter Try.func5, Try.ntmps5
  go_wp2_with (go_at_call 15; refine (hC.out).mono ?_; rintro e w1 ⟨rfl, h1⟩; have h1 := Lib.hid h1)
  go_ret
  exact ⟨rfl, h1.out⟩

set_option maxHeartbeats 1000000 in
theorem turns (s : ByteArray) (i : Nat) (bit : Int) (w : World) (hs : s.size ≤ 2000) (hi : i < s.size) :
    Calls Try.prog 5 #[.string s, .int .i64 i, .int .i64 bit] w fun e w' => e = .returned (.bool true) ∧ Tch (fun _ => False) w w' := by
  have hC := Lib.hid (awake03 w)
  have hR := Lib.hid (row_of w)
  have hli : (i : Int) < (s.size : Int) := by omega
  have hl2 : (s.size : Int) ≤ 2000 := by omega
  have b1 : -8 < bit.tmod 8 := Int.lt_tmod_of_pos bit (by omega)
  have b2 : bit.tmod 8 < 8 := Int.tmod_lt_of_pos bit (by omega)
  go_enter Try.func5, Try.ntmps5
  go_wp2_with (go_at_call 15; refine (hC.out).mono ?_; rintro e w1 ⟨rfl, h1⟩; obtain ⟨cap, w2, hcv, hrow⟩ := hR.out w1 s h1; replace hrow := Lib.hid hrow; clear h1)
  obtain ⟨g, cap', hv, hl, hg, hc, ht⟩ := hrow.out
  injection hv with e1 e2 e3
  injection e1 with e1
  injection e1 with e1
  subst e3
  have hci := (hc i hi).1
  have hfi := (hc i hi).2
  rw [← e1] at hci hfi
  replace hrow := Lib.hid (fun x hx m => row_set (i := i) hrow.out x hx m)
  clear hc ht hg e2 hcv
  clear e1
  generalize (s.data.toList.getD i 0) = c at *
  generalize w1.heap.size = G at *
  go_region
  obtain ⟨l', hr'⟩ := hrow.out _ (wf_bits .xor .u8 (c.toNat : Int) (2 ^ (bit.tmod 8 % 8).toNat % 256)) 1
  change Row w (w2.setCell ⟨G, i, none⟩ (.int .u8 (bits .xor .u8 (c.toNat : Int) (2 ^ (bit.tmod 8 % 8).toNat % 256)))).drew l' s.size (.slice (some ⟨G, 0, none⟩) s.size cap) at hr'
  generalize (w2.setCell ⟨G, i, none⟩ (.int .u8 (bits .xor .u8 (c.toNat : Int) (2 ^ (bit.tmod 8 % 8).toNat % 256)))).drew = w3 at *
  have hcv := row_conv hr'
  have hls : (⟨l'.toArray⟩ : ByteArray).size ≤ 2000 := by
    have := hr'.len
    show l'.toArray.size ≤ 2000
    simp; omega
  have hr2 := Lib.hid (fun wd k => row_conv (hr'.keep (wd := wd) k))
  generalize (⟨l'.toArray⟩ : ByteArray) = d at *
  replace hr' := Lib.hid hr'.tch
  have CR := Lib.hid (fun (x : ByteArray) (hx : x.size ≤ 2000) w => RSum_any x (by omega) w)
  have CS := Lib.hid (fun (x : ByteArray) (hx : x.size ≤ 2000) w => Sum_any x (by omega) w)
  clear hci hfi hrow b1 b2 hR hC
  have T := Lib.hid (Tch.refl (fun _ => False) w3)
  go_wp2_with (go_at_call 16; refine (CR.out _ (by assumption) _).mono ?_; rintro e w4 ⟨rfl, h4⟩; replace T := Lib.hid (T.out.trans h4); clear h4; have hcw := hr2.out _ T.out)
  go_wp2_with (go_at_call 17; refine (CS.out _ (by assumption) _).mono ?_; rintro e w6 ⟨rfl, h4⟩; replace T := Lib.hid (T.out.trans h4); clear h4)
  go_ret
  exact ⟨by simp, hr'.out.trans T.out⟩

/-- DigestApart: for whatever arguments. -/
theorem apart_any (s : ByteArray) (a bit : Int) (w : World) :
    Calls Try.prog 5 #[.string s, .int .i64 a, .int .i64 bit] w fun e w' => e = .returned (.bool true) ∧ Below w.heap.size w w' := by
  by_cases h : 2000 < s.size ∨ a < 0 ∨ (s.size : Int) ≤ a
  · exact (skip s a bit w h).mono fun e w' k => ⟨k.1, k.2.below (Nat.le_refl _) (fun _ f => f.elim)⟩
  · obtain ⟨i, rfl⟩ := Int.eq_ofNat_of_zero_le (a := a) (by omega)
    exact (turns s i bit w (by omega) (by omega)).mono fun e w' k => ⟨k.1, k.2.below (Nat.le_refl _) (fun _ f => f.elim)⟩

end Go.Proofs.Ytpecclcihefbaaa.Apart
