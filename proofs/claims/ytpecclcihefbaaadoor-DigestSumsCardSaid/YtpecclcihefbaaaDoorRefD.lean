/- The walk of the reference's root. -/
import Derived.Test.YtpecclcihefbaaaDoorRefC
set_option linter.unusedVariables false
set_option linter.unusedSimpArgs false
namespace Go.Proofs.YtpecclcihefbaaaDoor.Ref
open Go.RowKit Go.Proofs.YtpecclcihefbaaaDoor.B

/-- The lower end behind t halvings. -/
def bis (p q : Nat) : Nat → Nat
  | 0 => 0
  | t + 1 => if ab (bis p q t + 2 ^ (39 - t)) q p then bis p q t else bis p q t + 2 ^ (39 - t)
def rootN (p q : Nat) : Nat := bis p q 40 % 4294967296
theorem pow_half (t : Nat) (h : t < 40) : 2 ^ (40 - t) = 2 * 2 ^ (39 - t) := by
  rw [show 40 - t = (39 - t) + 1 from by omega, Nat.pow_succ, Nat.mul_comm]
theorem bis_le (p q : Nat) : ∀ t, t ≤ 40 → bis p q t + 2 ^ (40 - t) ≤ 1099511627776
  | 0, _ => by simp [bis]
  | t + 1, h => by
    have ih := bis_le p q t (by omega)
    rw [pow_half t (by omega)] at ih
    rw [bis, show 40 - (t + 1) = 39 - t from by omega]
    split <;> omega

set_option maxRecDepth 100000 in
set_option maxHeartbeats 4000000 in
theorem root_any (p q : Nat) (hq1 : 1 ≤ q) (hq : q ≤ 3) (hp : p < 1000) (w : World) :
    Calls Tryd.prog 53 #[.int .i64 (p : Int), .int .i64 (q : Int)] w fun e w' => e = .returned (.int .u32 ((rootN p q : Nat) : Int)) ∧ Tch (fun _ => False) w w' := by
  go_enter Tryd.func53, Tryd.ntmps53
  go_wp2_with fail
  go_loopg [5, 6] 40 (fun g lv hv W => ∃ t lo hi : Nat, g = 40 - t ∧ t ≤ 40 ∧ lv = .int .u64 lo ∧ hv = .int .u64 hi ∧ lo = bis p q t ∧ hi = bis p q t + 2 ^ (40 - t) ∧ Tch (fun _ => False) w W)
  case atStart => exact ⟨0, 0, 1099511627776, rfl, by omega, rfl, rfl, rfl, by simp [bis], Tch.refl _ _⟩
  case round =>
    obtain ⟨t, lo, hi, hg, ht, rfl, rfl, hlo, hhi, htc⟩ := hrel
    subst hg
    have hb := bis_le p q t ht
    by_cases htl : t < 40
    · rw [pow_half t htl] at hb hhi
      have hw1 : 1 ≤ 2 ^ (39 - t) := Nat.one_le_two_pow
      have hC := Lib.hid (fun W => above_any ((lo + hi) / 2) q p (by omega) hq1 hq hp W)
      have hmid : (lo + hi) / 2 = bis p q t + 2 ^ (39 - t) := by omega
      rw [show (((lo + hi) / 2 : Nat) : Int) = ((lo : Int) + (hi : Int)) / 2 from by omega] at hC
      have h1 : (1 : Int) < (hi : Int) - (lo : Int) := by omega
      have h2 : (hi : Int) ≤ 1099511627776 := by omega
      have h3 : (lo : Int) < (hi : Int) := by omega
      have hmidi : ((lo : Int) + (hi : Int)) / 2 = ((bis p q t + 2 ^ (39 - t) : Nat) : Int) := by omega
      replace hlo := Lib.hid hlo
      replace hhi := Lib.hid hhi
      have hmH := Lib.hid hmid
      replace hmidi := Lib.hid hmidi
      replace htc := Lib.hid htc
      clear hb hmid hw1
      cases hab : ab ((lo + hi) / 2) q p
      · have habH := Lib.hid hab
        rw [hab] at hC
        clear hab
        go_wp2_with (go_at_call 77; refine (hC.out _).mono ?_; rintro e w1 ⟨rfl, h⟩; have h := Lib.hid h)
        go_roundg (40 - (t + 1))
        case measure => omega
        case rel =>
          exact ⟨t + 1, bis p q t + 2 ^ (39 - t), hi, rfl, by omega, congrArg (Value.int .u64) hmidi.out, rfl, by rw [bis, if_neg (by rw [← hmH.out, habH.out]; decide)], by
            rw [bis, if_neg (by rw [← hmH.out, habH.out]; decide), show 40 - (t + 1) = 39 - t from by omega, hhi.out]; omega, htc.out.trans h.out⟩
      · have habH := Lib.hid hab
        rw [hab] at hC
        clear hab
        go_wp2_with (go_at_call 77; refine (hC.out _).mono ?_; rintro e w1 ⟨rfl, h⟩; have h := Lib.hid h)
        go_roundg (40 - (t + 1))
        case measure => omega
        case rel =>
          exact ⟨t + 1, lo, bis p q t + 2 ^ (39 - t), rfl, by omega, rfl, congrArg (Value.int .u64) hmidi.out, by rw [bis, if_pos (by rw [← hmH.out, habH.out])]; exact hlo.out, by
            rw [bis, if_pos (by rw [← hmH.out, habH.out]), show 40 - (t + 1) = 39 - t from by omega], htc.out.trans h.out⟩
    · obtain rfl : t = 40 := by omega
      have hhl : hi = lo + 1 := by rw [hhi, hlo]
      have h1 : ¬ (1 : Int) < (hi : Int) - (lo : Int) := by omega
      have h2 : (hi : Int) ≤ 1099511627776 := by omega
      have h3 : (lo : Int) < (hi : Int) := by omega
      have hres := Lib.hid (show rootN p q = lo % 4294967296 from by rw [hlo]; rfl)
      replace htc := Lib.hid htc
      clear hb hhl hlo hhi
      go_wp2_with fail
      go_ret
      refine ⟨?_, htc.out⟩
      rw [hres.out]
      rw [show ((lo % 4294967296 : Nat) : Int) = (lo : Int) % 4294967296 from by omega]
      rfl

end Go.Proofs.YtpecclcihefbaaaDoor.Ref
