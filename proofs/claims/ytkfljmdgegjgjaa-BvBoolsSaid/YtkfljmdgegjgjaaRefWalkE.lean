/-
  What the reference's division of numbers without a sign does.
  No condition but that the numbers fit 64 bits and that the divisor is not nought.
-/
import Derived.Test.YtkfljmdgegjgjaaRefWalkC
import Derived.Test.YtkfljmdgegjgjaaDivPlain
namespace Go.Proofs.Ytkfljmdgegjgjaa
open Go.RowKit

theorem div_q63 (q : Int) : wrap64 (q + 2 ^ 63) = wrap64 (q + -9223372036854775808) := by
  apply wrap64_congr
  have : (2 : Int) ^ 63 = 9223372036854775808 := by decide
  rw [this]; omega

set_option maxHeartbeats 2000000 in
theorem refDivide_any (a b : Int) (hb : I64 b) (hb0 : b ≠ 0) (w : World) :
    Calls Try.prog 40 #[.int .i64 a, .int .i64 b] w fun e w' => e = .returned (.tuple #[.int .i64 (wrap64 (a % 18446744073709551616 / (b % 18446744073709551616))), .int .i64 (wrap64 (a % 18446744073709551616 % (b % 18446744073709551616)))]) ∧ w = w' := by
  have hbz : b % 18446744073709551616 ≠ 0 := by unfold I64 at hb; omega
  have HS := Lib.hid (div_start a b hbz)
  clear hbz
  go_enter Try.func40, Try.ntmps40
  go_wp2_with fail
  go_loop [6, 7, 8] (fun q r i => ∃ (j : Nat) (q0 r0 : Int), j ≤ 64 ∧ i = .int .i64 ((j : Int) - 1) ∧ q = .int .i64 q0 ∧ r = .int .i64 r0 ∧ DivInv a b j q0 r0) (fun _ _ i => (intOf i + 1).toNat)
  case atStart => exact ⟨64, 0, 0, by omega, rfl, rfl, rfl, HS.out⟩
  case round =>
    obtain ⟨j, q0, r0, hj, rfl, rfl, rfl, hinv⟩ := hrel
    have HI := Lib.hid hinv
    clear hinv
    by_cases hlt : 0 < j
    · obtain ⟨i, rfl⟩ : ∃ i, j = i + 1 := ⟨j - 1, by omega⟩
      have e : ((i + 1 : Nat) : Int) - 1 = (i : Int) := by omega
      rw [e]
      clear e hlt
      have hi64 : i < 64 := by omega
      have hr : I64 (wrap64 (wrap64 (2 * r0) + a / 2 ^ i % 2)) := wrap64_I64 _
      by_cases hc : r0 < 0
      · have HY := Lib.hid (div_yes hi64 HI.out (Or.inl hc))
        by_cases h63 : i = 63
        · rw [show wrap64 (q0 + 2 ^ i) = wrap64 (q0 + -9223372036854775808) from by rw [h63]; exact div_q63 q0] at HY
          have b63 : ((i : Int) == 63) = true := by simp [h63]
          clear h63
          go_wp2_with (first | (go_at_call 63; refine (refBit_any _ _ (by omega) (by omega) _).mono ?_; rintro e w' ⟨rfl, rfl⟩) | (go_at_call 42; refine (refBelow_any _ _ _ (by assumption) hb _).mono ?_; rintro e w' ⟨rfl, rfl⟩) | (go_at_call 32; refine (refPower_any _ (by omega) _).mono ?_; rintro e w' ⟨rfl, rfl⟩))
          go_round
          case rel => exact ⟨i, _, _, by omega, rfl, rfl, rfl, HY.out⟩
          case measure => simp [intOf] <;> omega
        · have hi3 : i < 63 := by omega
          go_wp2_with (first | (go_at_call 63; refine (refBit_any _ _ (by omega) (by omega) _).mono ?_; rintro e w' ⟨rfl, rfl⟩) | (go_at_call 42; refine (refBelow_any _ _ _ (by assumption) hb _).mono ?_; rintro e w' ⟨rfl, rfl⟩) | (go_at_call 32; refine (refPower_any _ (by omega) _).mono ?_; rintro e w' ⟨rfl, rfl⟩))
          go_round
          case rel => exact ⟨i, _, _, by omega, rfl, rfl, rfl, HY.out⟩
          case measure => simp [intOf] <;> omega
      · have hc' : 0 ≤ r0 := Int.not_lt.1 hc
        cases hbl : blw 9 (wrap64 (wrap64 (2 * r0) + a / 2 ^ i % 2)) b
        · have HY := Lib.hid (div_yes hi64 HI.out (Or.inr (by rw [hbl]; rfl)))
          by_cases h63 : i = 63
          · rw [show wrap64 (q0 + 2 ^ i) = wrap64 (q0 + -9223372036854775808) from by rw [h63]; exact div_q63 q0] at HY
            have b63 : ((i : Int) == 63) = true := by simp [h63]
            clear h63
            go_wp2_with (first | (go_at_call 63; refine (refBit_any _ _ (by omega) (by omega) _).mono ?_; rintro e w' ⟨rfl, rfl⟩) | (go_at_call 42; refine (refBelow_any _ _ _ (by assumption) hb _).mono ?_; rintro e w' ⟨rfl, rfl⟩) | (go_at_call 32; refine (refPower_any _ (by omega) _).mono ?_; rintro e w' ⟨rfl, rfl⟩))
            go_round
            case rel => exact ⟨i, _, _, by omega, rfl, rfl, rfl, HY.out⟩
            case measure => simp [intOf] <;> omega
          · have hi3 : i < 63 := by omega
            go_wp2_with (first | (go_at_call 63; refine (refBit_any _ _ (by omega) (by omega) _).mono ?_; rintro e w' ⟨rfl, rfl⟩) | (go_at_call 42; refine (refBelow_any _ _ _ (by assumption) hb _).mono ?_; rintro e w' ⟨rfl, rfl⟩) | (go_at_call 32; refine (refPower_any _ (by omega) _).mono ?_; rintro e w' ⟨rfl, rfl⟩))
            go_round
            case rel => exact ⟨i, _, _, by omega, rfl, rfl, rfl, HY.out⟩
            case measure => simp [intOf] <;> omega
        · have HY := Lib.hid (div_no hi64 HI.out hc' hbl)
          go_wp2_with (first | (go_at_call 63; refine (refBit_any _ _ (by omega) (by omega) _).mono ?_; rintro e w' ⟨rfl, rfl⟩) | (go_at_call 42; refine (refBelow_any _ _ _ (by assumption) hb _).mono ?_; rintro e w' ⟨rfl, rfl⟩) | (go_at_call 32; refine (refPower_any _ (by omega) _).mono ?_; rintro e w' ⟨rfl, rfl⟩))
          go_round
          case rel => exact ⟨i, _, _, by omega, rfl, rfl, rfl, HY.out⟩
          case measure => simp [intOf] <;> omega
    · obtain rfl : j = 0 := by omega
      have HE := Lib.hid (div_end HI.out)
      have e : ((0 : Nat) : Int) - 1 = -1 := by omega
      rw [e]
      go_wp2
      go_ret2
      exact ⟨by rw [← HE.out.1, ← HE.out.2]; rfl, rfl⟩
end Go.Proofs.Ytkfljmdgegjgjaa
