/-
  What the reference's functions of chapter 1 do that make no memory.
  No condition but that places of bits lie below 64.
  What the reference's functions of chapter 1 do that make slices.
  No condition but that numbers fit 64 bits.
  The plain law of chapter 1: bits as numbers. What the reference works out bit by bit is what the program's operations give.
  No condition but that numbers fit 64 bits.
  What the reference's operations on one value do.
  No condition but that numbers fit 64 bits.
  What the reference's operations bit by bit do.
  No condition but that the kind has bits.
  What the reference's division of numbers without a sign does.
  No condition but that the numbers fit 64 bits and that the divisor is not nought.
  The plain laws of values: rings, bits, orders, shifts, divisions.
  No condition but that numbers fit 64 bits.
-/
import Derived.Test.YtipfcfaigbeakaaRows
import Derived.Test.YtipfcfaigbeakaaJKit
import Derived.Test.YtipfcfaigbeakaaJPlain
namespace Go.Proofs.Ytipfcfaigbeakaa
open Go.RowKit
set_option maxRecDepth 100000

theorem refWidth_any (k : Int) (w : World) :
    Calls Try.prog 44 #[.int .i64 k] w fun e w' => e = .returned (.int .i64 (width k)) ∧ w = w' := by
  go_enter Try.func44, Try.ntmps44
  go_wp2
  all_goals go_ret
  all_goals refine ⟨?_, rfl⟩
  all_goals simp_all [width]

theorem refSigned_any (k : Int) (w : World) :
    Calls Try.prog 103 #[.int .i64 k] w fun e w' => e = .returned (.bool (sgn k)) ∧ w = w' := by
  go_enter Try.func103, Try.ntmps103
  go_wp2
  all_goals go_ret
  all_goals refine ⟨?_, rfl⟩
  · simp_all [sgn]
  · have h : k < 2 := by assumption
    simp [sgn, Int.not_le.2 h]

theorem refTruth_any (b : Bool) (w : World) :
    Calls Try.prog 92 #[.bool b] w fun e w' => e = .returned (.int .i64 (tru b)) ∧ w = w' := by
  cases b
  all_goals
    go_enter Try.func92, Try.ntmps92
    go_wp2
    go_ret
    exact ⟨rfl, rfl⟩

theorem refBit_any (n i : Int) (h0 : 0 ≤ i) (h1 : i < 64) (w : World) :
    Calls Try.prog 108 #[.int .i64 n, .int .i64 i] w fun e w' => e = .returned (.int .i64 (n / 2 ^ i.toNat % 2)) ∧ w = w' := by
  go_enter Try.func108, Try.ntmps108
  go_wp2
  go_ret
  exact ⟨ret_int (bv_and_one _), rfl⟩

theorem refBelow_any (k a b : Int) (ha : I64 a) (hb : I64 b) (w : World) :
    Calls Try.prog 95 #[.int .i64 k, .int .i64 a, .int .i64 b] w fun e w' => e = .returned (.bool (blw k a b)) ∧ w = w' := by
  by_cases hk : k = 9
  · subst hk
    have HB := Lib.hid (blw_nine ha hb)
    go_enter Try.func95, Try.ntmps95
    go_wp2
    all_goals go_ret
    all_goals refine ⟨ret_bool ?_, rfl⟩
    all_goals rw [HB.out]
    all_goals simp_all
  · go_enter Try.func95, Try.ntmps95
    go_wp2
    go_ret
    exact ⟨ret_bool (by simp [blw, hk]), rfl⟩

theorem refPower_any (m : Nat) (hm : m ≤ 62) (w : World) :
    Calls Try.prog 102 #[.int .i64 m] w fun e w' => e = .returned (.int .i64 (2 ^ m)) ∧ w = w' := by
  go_enter Try.func102, Try.ntmps102
  go_wp2
  go_loop [3, 4] (fun p i => ∃ k : Nat, k ≤ m ∧ i = .int .i64 k ∧ p = .int .i64 (2 ^ k)) (fun _ i => m - (intOf i).toNat)
  case atStart => exact ⟨0, Nat.zero_le _, rfl, rfl⟩
  case round =>
    obtain ⟨k, hk, rfl, rfl⟩ := hrel
    by_cases hlt : k < m
    · obtain ⟨q, hq⟩ : ∃ q : Int, q = 2 ^ k := ⟨_, rfl⟩
      have hq0 : 0 ≤ q := by rw [hq]; exact Int.pow_nonneg (by decide)
      have hq1 : q ≤ 2305843009213693952 := by rw [hq]; exact pow_le61 k (by omega)
      rw [← hq]
      have HQ := Lib.hid hq
      clear hq
      go_wp2
      go_round
      case rel => exact ⟨k + 1, by omega, by go_num, by rw [Int.pow_succ, ← HQ.out, Int.mul_comm]⟩
      case measure => simp [intOf]; omega
    · have : k = m := by omega
      subst this
      go_wp2
      go_ret
      exact ⟨rfl, rfl⟩

theorem refWrap_1 (n : Int) (w : World) :
    Calls Try.prog 76 #[.int .i64 1, .int .i64 n] w fun e w' => e = .returned (.int .i64 (wkr 1 n)) ∧ w = w' := by
  have hw : width 1 = 1 := by decide
  have hs : sgn 1 = false := by decide
  have hp := fun (w : World) => refPower_any 1 (by decide) w
  have HB := Lib.hid (tmod_bd (n := n) (p := 2) (by decide))
  have b1 : -2 < n.tmod 2 := HB.out.1
  have b2 : n.tmod 2 < 2 := HB.out.2
  by_cases hn : n.tmod 2 < 0
  · have HE := Lib.hid (tmod_neg (n := n) (p := 2) (by decide) hn)
    go_enter Try.func76, Try.ntmps76
    go_wp2_with (first | (go_at_call 44; refine (refWidth_any _ _).mono ?_; rintro e w' ⟨rfl, rfl⟩) | (go_at_call 103; refine (refSigned_any _ _).mono ?_; rintro e w' ⟨rfl, rfl⟩) | (go_at_call 102; refine (hp _).mono ?_; rintro e w' ⟨rfl, rfl⟩))
    all_goals go_ret
    all_goals refine ⟨ret_int ?_, rfl⟩
    all_goals have he := HE.out
    all_goals rw [wkr_1]
    all_goals omega
  · have hn' : 0 ≤ n.tmod 2 := Int.not_lt.1 hn
    have HE := Lib.hid (tmod_pos (n := n) (p := 2) (by decide) hn')
    go_enter Try.func76, Try.ntmps76
    go_wp2_with (first | (go_at_call 44; refine (refWidth_any _ _).mono ?_; rintro e w' ⟨rfl, rfl⟩) | (go_at_call 103; refine (refSigned_any _ _).mono ?_; rintro e w' ⟨rfl, rfl⟩) | (go_at_call 102; refine (hp _).mono ?_; rintro e w' ⟨rfl, rfl⟩))
    all_goals go_ret
    all_goals refine ⟨ret_int ?_, rfl⟩
    all_goals have he := HE.out
    all_goals rw [wkr_1]
    all_goals omega

theorem refWrap_2 (n : Int) (w : World) :
    Calls Try.prog 76 #[.int .i64 2, .int .i64 n] w fun e w' => e = .returned (.int .i64 (wkr 2 n)) ∧ w = w' := by
  have hw : width 2 = 8 := by decide
  have hs : sgn 2 = true := by decide
  have hp := fun (w : World) => refPower_any 8 (by decide) w
  have HB := Lib.hid (tmod_bd (n := n) (p := 256) (by decide))
  have b1 : -256 < n.tmod 256 := HB.out.1
  have b2 : n.tmod 256 < 256 := HB.out.2
  by_cases hn : n.tmod 256 < 0
  · have HE := Lib.hid (tmod_neg (n := n) (p := 256) (by decide) hn)
    go_enter Try.func76, Try.ntmps76
    go_wp2_with (first | (go_at_call 44; refine (refWidth_any _ _).mono ?_; rintro e w' ⟨rfl, rfl⟩) | (go_at_call 103; refine (refSigned_any _ _).mono ?_; rintro e w' ⟨rfl, rfl⟩) | (go_at_call 102; refine (hp _).mono ?_; rintro e w' ⟨rfl, rfl⟩))
    all_goals go_ret
    all_goals refine ⟨ret_int ?_, rfl⟩
    all_goals have he := HE.out
    all_goals rw [wkr_2]
    all_goals omega
  · have hn' : 0 ≤ n.tmod 256 := Int.not_lt.1 hn
    have HE := Lib.hid (tmod_pos (n := n) (p := 256) (by decide) hn')
    go_enter Try.func76, Try.ntmps76
    go_wp2_with (first | (go_at_call 44; refine (refWidth_any _ _).mono ?_; rintro e w' ⟨rfl, rfl⟩) | (go_at_call 103; refine (refSigned_any _ _).mono ?_; rintro e w' ⟨rfl, rfl⟩) | (go_at_call 102; refine (hp _).mono ?_; rintro e w' ⟨rfl, rfl⟩))
    all_goals go_ret
    all_goals refine ⟨ret_int ?_, rfl⟩
    all_goals have he := HE.out
    all_goals rw [wkr_2]
    all_goals omega

theorem refWrap_3 (n : Int) (w : World) :
    Calls Try.prog 76 #[.int .i64 3, .int .i64 n] w fun e w' => e = .returned (.int .i64 (wkr 3 n)) ∧ w = w' := by
  have hw : width 3 = 16 := by decide
  have hs : sgn 3 = true := by decide
  have hp := fun (w : World) => refPower_any 16 (by decide) w
  have HB := Lib.hid (tmod_bd (n := n) (p := 65536) (by decide))
  have b1 : -65536 < n.tmod 65536 := HB.out.1
  have b2 : n.tmod 65536 < 65536 := HB.out.2
  by_cases hn : n.tmod 65536 < 0
  · have HE := Lib.hid (tmod_neg (n := n) (p := 65536) (by decide) hn)
    go_enter Try.func76, Try.ntmps76
    go_wp2_with (first | (go_at_call 44; refine (refWidth_any _ _).mono ?_; rintro e w' ⟨rfl, rfl⟩) | (go_at_call 103; refine (refSigned_any _ _).mono ?_; rintro e w' ⟨rfl, rfl⟩) | (go_at_call 102; refine (hp _).mono ?_; rintro e w' ⟨rfl, rfl⟩))
    all_goals go_ret
    all_goals refine ⟨ret_int ?_, rfl⟩
    all_goals have he := HE.out
    all_goals rw [wkr_3]
    all_goals omega
  · have hn' : 0 ≤ n.tmod 65536 := Int.not_lt.1 hn
    have HE := Lib.hid (tmod_pos (n := n) (p := 65536) (by decide) hn')
    go_enter Try.func76, Try.ntmps76
    go_wp2_with (first | (go_at_call 44; refine (refWidth_any _ _).mono ?_; rintro e w' ⟨rfl, rfl⟩) | (go_at_call 103; refine (refSigned_any _ _).mono ?_; rintro e w' ⟨rfl, rfl⟩) | (go_at_call 102; refine (hp _).mono ?_; rintro e w' ⟨rfl, rfl⟩))
    all_goals go_ret
    all_goals refine ⟨ret_int ?_, rfl⟩
    all_goals have he := HE.out
    all_goals rw [wkr_3]
    all_goals omega

theorem refWrap_4 (n : Int) (w : World) :
    Calls Try.prog 76 #[.int .i64 4, .int .i64 n] w fun e w' => e = .returned (.int .i64 (wkr 4 n)) ∧ w = w' := by
  have hw : width 4 = 32 := by decide
  have hs : sgn 4 = true := by decide
  have hp := fun (w : World) => refPower_any 32 (by decide) w
  have HB := Lib.hid (tmod_bd (n := n) (p := 4294967296) (by decide))
  have b1 : -4294967296 < n.tmod 4294967296 := HB.out.1
  have b2 : n.tmod 4294967296 < 4294967296 := HB.out.2
  by_cases hn : n.tmod 4294967296 < 0
  · have HE := Lib.hid (tmod_neg (n := n) (p := 4294967296) (by decide) hn)
    go_enter Try.func76, Try.ntmps76
    go_wp2_with (first | (go_at_call 44; refine (refWidth_any _ _).mono ?_; rintro e w' ⟨rfl, rfl⟩) | (go_at_call 103; refine (refSigned_any _ _).mono ?_; rintro e w' ⟨rfl, rfl⟩) | (go_at_call 102; refine (hp _).mono ?_; rintro e w' ⟨rfl, rfl⟩))
    all_goals go_ret
    all_goals refine ⟨ret_int ?_, rfl⟩
    all_goals have he := HE.out
    all_goals rw [wkr_4]
    all_goals omega
  · have hn' : 0 ≤ n.tmod 4294967296 := Int.not_lt.1 hn
    have HE := Lib.hid (tmod_pos (n := n) (p := 4294967296) (by decide) hn')
    go_enter Try.func76, Try.ntmps76
    go_wp2_with (first | (go_at_call 44; refine (refWidth_any _ _).mono ?_; rintro e w' ⟨rfl, rfl⟩) | (go_at_call 103; refine (refSigned_any _ _).mono ?_; rintro e w' ⟨rfl, rfl⟩) | (go_at_call 102; refine (hp _).mono ?_; rintro e w' ⟨rfl, rfl⟩))
    all_goals go_ret
    all_goals refine ⟨ret_int ?_, rfl⟩
    all_goals have he := HE.out
    all_goals rw [wkr_4]
    all_goals omega

theorem refWrap_5 (n : Int) (w : World) :
    Calls Try.prog 76 #[.int .i64 5, .int .i64 n] w fun e w' => e = .returned (.int .i64 (wkr 5 n)) ∧ w = w' := by
  have hw : width 5 = 64 := by decide
  go_enter Try.func76, Try.ntmps76
  go_wp2_with (first | (go_at_call 44; refine (refWidth_any _ _).mono ?_; rintro e w' ⟨rfl, rfl⟩))
  go_ret
  exact ⟨ret_int (wkr_5 n).symm, rfl⟩

theorem refWrap_6 (n : Int) (w : World) :
    Calls Try.prog 76 #[.int .i64 6, .int .i64 n] w fun e w' => e = .returned (.int .i64 (wkr 6 n)) ∧ w = w' := by
  have hw : width 6 = 8 := by decide
  have hs : sgn 6 = false := by decide
  have hp := fun (w : World) => refPower_any 8 (by decide) w
  have HB := Lib.hid (tmod_bd (n := n) (p := 256) (by decide))
  have b1 : -256 < n.tmod 256 := HB.out.1
  have b2 : n.tmod 256 < 256 := HB.out.2
  by_cases hn : n.tmod 256 < 0
  · have HE := Lib.hid (tmod_neg (n := n) (p := 256) (by decide) hn)
    go_enter Try.func76, Try.ntmps76
    go_wp2_with (first | (go_at_call 44; refine (refWidth_any _ _).mono ?_; rintro e w' ⟨rfl, rfl⟩) | (go_at_call 103; refine (refSigned_any _ _).mono ?_; rintro e w' ⟨rfl, rfl⟩) | (go_at_call 102; refine (hp _).mono ?_; rintro e w' ⟨rfl, rfl⟩))
    all_goals go_ret
    all_goals refine ⟨ret_int ?_, rfl⟩
    all_goals have he := HE.out
    all_goals rw [wkr_6]
    all_goals omega
  · have hn' : 0 ≤ n.tmod 256 := Int.not_lt.1 hn
    have HE := Lib.hid (tmod_pos (n := n) (p := 256) (by decide) hn')
    go_enter Try.func76, Try.ntmps76
    go_wp2_with (first | (go_at_call 44; refine (refWidth_any _ _).mono ?_; rintro e w' ⟨rfl, rfl⟩) | (go_at_call 103; refine (refSigned_any _ _).mono ?_; rintro e w' ⟨rfl, rfl⟩) | (go_at_call 102; refine (hp _).mono ?_; rintro e w' ⟨rfl, rfl⟩))
    all_goals go_ret
    all_goals refine ⟨ret_int ?_, rfl⟩
    all_goals have he := HE.out
    all_goals rw [wkr_6]
    all_goals omega

theorem refWrap_7 (n : Int) (w : World) :
    Calls Try.prog 76 #[.int .i64 7, .int .i64 n] w fun e w' => e = .returned (.int .i64 (wkr 7 n)) ∧ w = w' := by
  have hw : width 7 = 16 := by decide
  have hs : sgn 7 = false := by decide
  have hp := fun (w : World) => refPower_any 16 (by decide) w
  have HB := Lib.hid (tmod_bd (n := n) (p := 65536) (by decide))
  have b1 : -65536 < n.tmod 65536 := HB.out.1
  have b2 : n.tmod 65536 < 65536 := HB.out.2
  by_cases hn : n.tmod 65536 < 0
  · have HE := Lib.hid (tmod_neg (n := n) (p := 65536) (by decide) hn)
    go_enter Try.func76, Try.ntmps76
    go_wp2_with (first | (go_at_call 44; refine (refWidth_any _ _).mono ?_; rintro e w' ⟨rfl, rfl⟩) | (go_at_call 103; refine (refSigned_any _ _).mono ?_; rintro e w' ⟨rfl, rfl⟩) | (go_at_call 102; refine (hp _).mono ?_; rintro e w' ⟨rfl, rfl⟩))
    all_goals go_ret
    all_goals refine ⟨ret_int ?_, rfl⟩
    all_goals have he := HE.out
    all_goals rw [wkr_7]
    all_goals omega
  · have hn' : 0 ≤ n.tmod 65536 := Int.not_lt.1 hn
    have HE := Lib.hid (tmod_pos (n := n) (p := 65536) (by decide) hn')
    go_enter Try.func76, Try.ntmps76
    go_wp2_with (first | (go_at_call 44; refine (refWidth_any _ _).mono ?_; rintro e w' ⟨rfl, rfl⟩) | (go_at_call 103; refine (refSigned_any _ _).mono ?_; rintro e w' ⟨rfl, rfl⟩) | (go_at_call 102; refine (hp _).mono ?_; rintro e w' ⟨rfl, rfl⟩))
    all_goals go_ret
    all_goals refine ⟨ret_int ?_, rfl⟩
    all_goals have he := HE.out
    all_goals rw [wkr_7]
    all_goals omega

theorem refWrap_8 (n : Int) (w : World) :
    Calls Try.prog 76 #[.int .i64 8, .int .i64 n] w fun e w' => e = .returned (.int .i64 (wkr 8 n)) ∧ w = w' := by
  have hw : width 8 = 32 := by decide
  have hs : sgn 8 = false := by decide
  have hp := fun (w : World) => refPower_any 32 (by decide) w
  have HB := Lib.hid (tmod_bd (n := n) (p := 4294967296) (by decide))
  have b1 : -4294967296 < n.tmod 4294967296 := HB.out.1
  have b2 : n.tmod 4294967296 < 4294967296 := HB.out.2
  by_cases hn : n.tmod 4294967296 < 0
  · have HE := Lib.hid (tmod_neg (n := n) (p := 4294967296) (by decide) hn)
    go_enter Try.func76, Try.ntmps76
    go_wp2_with (first | (go_at_call 44; refine (refWidth_any _ _).mono ?_; rintro e w' ⟨rfl, rfl⟩) | (go_at_call 103; refine (refSigned_any _ _).mono ?_; rintro e w' ⟨rfl, rfl⟩) | (go_at_call 102; refine (hp _).mono ?_; rintro e w' ⟨rfl, rfl⟩))
    all_goals go_ret
    all_goals refine ⟨ret_int ?_, rfl⟩
    all_goals have he := HE.out
    all_goals rw [wkr_8]
    all_goals omega
  · have hn' : 0 ≤ n.tmod 4294967296 := Int.not_lt.1 hn
    have HE := Lib.hid (tmod_pos (n := n) (p := 4294967296) (by decide) hn')
    go_enter Try.func76, Try.ntmps76
    go_wp2_with (first | (go_at_call 44; refine (refWidth_any _ _).mono ?_; rintro e w' ⟨rfl, rfl⟩) | (go_at_call 103; refine (refSigned_any _ _).mono ?_; rintro e w' ⟨rfl, rfl⟩) | (go_at_call 102; refine (hp _).mono ?_; rintro e w' ⟨rfl, rfl⟩))
    all_goals go_ret
    all_goals refine ⟨ret_int ?_, rfl⟩
    all_goals have he := HE.out
    all_goals rw [wkr_8]
    all_goals omega

theorem refWrap_9 (n : Int) (w : World) :
    Calls Try.prog 76 #[.int .i64 9, .int .i64 n] w fun e w' => e = .returned (.int .i64 (wkr 9 n)) ∧ w = w' := by
  have hw : width 9 = 64 := by decide
  go_enter Try.func76, Try.ntmps76
  go_wp2_with (first | (go_at_call 44; refine (refWidth_any _ _).mono ?_; rintro e w' ⟨rfl, rfl⟩))
  go_ret
  exact ⟨ret_int (wkr_9 n).symm, rfl⟩

theorem refWrap_none (k n : Int) (hw : width k = 0) (w : World) :
    Calls Try.prog 76 #[.int .i64 k, .int .i64 n] w fun e w' => e = .returned (.int .i64 (wkr k n)) ∧ w = w' := by
  have HE := Lib.hid (wkr_none n hw)
  go_enter Try.func76, Try.ntmps76
  go_wp2_with (first | (go_at_call 44; refine (refWidth_any _ _).mono ?_; rintro e w' ⟨rfl, rfl⟩))
  go_ret
  exact ⟨ret_int HE.out.symm, rfl⟩

theorem refWrap_any (k n : Int) (w : World) :
    Calls Try.prog 76 #[.int .i64 k, .int .i64 n] w fun e w' => e = .returned (.int .i64 (wkr k n)) ∧ w = w' := by
  rcases kinds k with rfl | rfl | rfl | rfl | rfl | rfl | rfl | rfl | rfl | h
  · exact refWrap_1 n w
  · exact refWrap_2 n w
  · exact refWrap_3 n w
  · exact refWrap_4 n w
  · exact refWrap_5 n w
  · exact refWrap_6 n w
  · exact refWrap_7 n w
  · exact refWrap_8 n w
  · exact refWrap_9 n w
  · exact refWrap_none k n h w

theorem refIs_any (k n : Int) (w : World) :
    Calls Try.prog 45 #[.int .i64 k, .int .i64 n] w fun e w' => e = .returned (.bool (isk k n)) ∧ w = w' := by
  go_enter Try.func45, Try.ntmps45
  go_wp2_with (first | (go_at_call 44; refine (refWidth_any _ _).mono ?_; rintro e w' ⟨rfl, rfl⟩) | (go_at_call 76; refine (refWrap_any _ _ _).mono ?_; rintro e w' ⟨rfl, rfl⟩))
  all_goals go_ret
  all_goals refine ⟨?_, rfl⟩
  · simp_all [isk]
  · have h : width k ≤ 0 := by assumption
    simp [isk, Int.not_lt.2 h]
end Go.Proofs.Ytipfcfaigbeakaa

namespace Go.Proofs.Ytipfcfaigbeakaa
open Go.RowKit
set_option maxRecDepth 100000

theorem infoInt : (Try.prog.info? 3).map (fun i => (i.zero, i.size, i.bytes)) = some (some (.int .i64 0), 1, 8) := by kernel_rfl

set_option maxHeartbeats 1000000 in
theorem refBits_any (k n : Int) (w : World) :
    Calls Try.prog 89 #[.int .i64 k, .int .i64 n] w fun e w' => ∃ v, e = .returned v ∧ w'.ownsRow w.heap.size 3 1 v (wid k) ((bitsL (wid k) n).map (.int .i64)) ∧ Ext w w' := by
  obtain ⟨m, hm⟩ : ∃ m, m = wid k := ⟨_, rfl⟩
  have hw : width k = (m : Int) := by rw [hm]; exact width_wid k
  have hm64 : m ≤ 64 := by rw [hm]; exact wid_le k
  rw [← hm]
  clear hm
  obtain ⟨B, hB⟩ : ∃ B, B = w.heap.size := ⟨_, rfl⟩
  have HB := Lib.hid hB
  rw [← hB]
  clear hB
  go_enter Try.func89, Try.ntmps89
  go_wp2_with (first | (go_at_call 44; refine (refWidth_any _ _).mono ?_; rintro e w' ⟨rfl, rfl⟩))
  go_loopw [5, 7] (fun v i wr => ∃ j : Nat, j ≤ m ∧ i = .int .i64 j ∧ wr.ownsRow B 3 1 v j ((bitsL j n).map (.int .i64)) ∧ Below B w wr) (fun _ i _ => m - (intOf i).toNat)
  case atStart => exact ⟨0, Nat.zero_le _, rfl, World.ownsRow_nil _ _ _ _, Below.refl _ _⟩
  case round =>
    obtain ⟨j, hj, rfl, hown, hbel⟩ := hrel
    by_cases hlt : j < m
    · go_wp2_with (first | (go_at_call 108; refine (refBit_any _ _ (by omega) (by omega) _).mono ?_; rintro e w' ⟨rfl, rfl⟩) | (at_builtin; go_must (refine wpList_append_lit rfl _ _ 22 3 rfl (.int .i64 0) 1 8 Try.underlying22 infoInt rfl (by decide) B _ _ _ rfl hown 1 1 _ _ rfl (by simp) rfl (by simp [Value.oneCell']) (by unfold maxLen; omega) (by omega) (by have := hbel.size; have := HB.out; omega) ?_); intro v1 w1 hown1 hg1 hb1))
      go_roundw
      case rel => exact ⟨j + 1, by omega, by go_num, by rw [bitsL_succ, List.map_append]; exact hown1, hbel.trans hb1⟩
      case measure => simp [intOf]; omega
    · obtain rfl : j = m := by omega
      go_wp2
      go_ret
      exact ⟨_, rfl, hown, by unfold Ext; rw [← HB.out]; exact hbel⟩

theorem pow_le63 (k : Nat) (h : k ≤ 63) : (2 : Int) ^ k ≤ 9223372036854775808 := by
  have h1 : (2 : Nat) ^ k ≤ 2 ^ 63 := Nat.pow_le_pow_right (by decide) h
  have h2 : ((2 ^ k : Nat) : Int) ≤ ((2 ^ 63 : Nat) : Int) := Int.ofNat_le.2 h1
  rw [Int.natCast_pow] at h2
  exact h2
theorem pow_le62 (k : Nat) (h : k ≤ 62) : (2 : Int) ^ k ≤ 4611686018427387904 := by
  have h1 : (2 : Nat) ^ k ≤ 2 ^ 62 := Nat.pow_le_pow_right (by decide) h
  have h2 : ((2 ^ k : Nat) : Int) ≤ ((2 ^ 62 : Nat) : Int) := Int.ofNat_le.2 h1
  rw [Int.natCast_pow] at h2
  exact h2

set_option maxHeartbeats 1000000 in
theorem refFrom_any (k : Int) (l : List Int) (v : Value) (w : World) (hv : SlC w v l.length (l.map (.int .i64))) (hl : l.length ≤ 4294967296) :
    Calls Try.prog 90 #[.int .i64 k, v] w fun e w' => e = .returned (.int .i64 (wkr k (fromS l (min (wid k) l.length)))) ∧ w = w' := by
  obtain ⟨m, hm⟩ : ∃ m, m = wid k := ⟨_, rfl⟩
  have hw : width k = (m : Int) := by rw [hm]; exact width_wid k
  have hm64 : m ≤ 64 := by rw [hm]; exact wid_le k
  rw [← hm]
  clear hm
  obtain ⟨a, cap, rfl, hnc, hcm, hc⟩ := hv
  obtain ⟨n, hn⟩ : ∃ n, n = l.length := ⟨_, rfl⟩
  rw [← hn]
  rw [← hn] at hl hnc
  have HN := Lib.hid hn
  clear hn
  go_enter Try.func90, Try.ntmps90
  go_wp2_with (first | (go_at_call 44; refine (refWidth_any _ _).mono ?_; rintro e w' ⟨rfl, rfl⟩))
  go_loop [5, 7] (fun s i => ∃ j : Nat, j ≤ m ∧ j ≤ n ∧ i = .int .i64 j ∧ s = .int .i64 (fromS l j)) (fun _ i => m - (intOf i).toNat)
  case atStart => exact ⟨0, Nat.zero_le _, Nat.zero_le _, rfl, rfl⟩
  case round =>
    obtain ⟨j, hj, hjn, rfl, rfl⟩ := hrel
    by_cases hlt : j < m
    · by_cases hlt2 : j < n
      · have hb := fromS_bd l j (by omega)
        have hg : l[j]? = some (l[j]'(by have := HN.out; omega)) := List.getElem?_eq_getElem _
        obtain ⟨x, hx⟩ : ∃ x, x = l[j]'(by have := HN.out; omega) := ⟨_, rfl⟩
        rw [← hx] at hg
        clear hx
        obtain ⟨b, o, rfl, hcell⟩ := hc j (.int .i64 x) (by simp [hg])
        have hgd : l.getD j 0 = x := by simp [hg]
        have HS := Lib.hid (show fromS l (j + 1) = if x = 0 then fromS l j else if j = 63 then fromS l j + -9223372036854775808 else fromS l j + 2 ^ j from by rw [← hgd]; rfl)
        obtain ⟨s, hs⟩ : ∃ s, s = fromS l j := ⟨_, rfl⟩
        rw [← hs] at hb ⊢
        rw [← hs] at HS
        clear hs hgd hg hc
        by_cases hx0 : x = 0
        · subst hx0
          clear hb
          go_wp2
          go_round
          case rel => exact ⟨j + 1, by omega, by omega, by go_num, by rw [HS.out]; rfl⟩
          case measure => simp [intOf]; omega
        · have hx1 : (x == 0) = false := by simpa using hx0
          by_cases hj3 : j = 63
          · have hp := pow_le63 j (by omega)
            have hs1 : 0 ≤ s := hb.1
            have hs2 : s ≤ 9223372036854775807 := by omega
            clear hb hp
            have HS' := Lib.hid (HS.out.trans (by rw [if_neg hx0, if_pos hj3]))
            clear HS
            subst hj3
            go_wp2
            go_round
            case rel => exact ⟨64, by omega, by omega, rfl, by rw [HS'.out]⟩
            case measure => simp [intOf]; omega
          · have hp := pow_le62 j (by omega)
            have hp0 : (0 : Int) < 2 ^ j := Int.pow_pos (by decide)
            have hs1 : 0 ≤ s := hb.1
            have hs2 : s ≤ 4611686018427387903 := by omega
            clear hb
            have HS' := Lib.hid (HS.out.trans (by rw [if_neg hx0, if_neg hj3]))
            clear HS
            have hj63 : j < 63 := by omega
            go_wp2_with (first | (go_at_call 102; refine (refPower_any _ (by omega) _).mono ?_; rintro e w' ⟨rfl, rfl⟩))
            go_round
            case rel => exact ⟨j + 1, by omega, by omega, by go_num, by rw [HS'.out]⟩
            case measure => simp [intOf]; omega
      · obtain rfl : j = n := by omega
        go_wp2_with (first | (go_at_call 76; refine (refWrap_any _ _ _).mono ?_; rintro e w' ⟨rfl, rfl⟩))
        go_ret
        exact ⟨ret_int (by congr 2; omega), rfl⟩
    · obtain rfl : j = m := by omega
      go_wp2_with (first | (go_at_call 76; refine (refWrap_any _ _ _).mono ?_; rintro e w' ⟨rfl, rfl⟩))
      go_ret
      exact ⟨ret_int (by congr 2; omega), rfl⟩
end Go.Proofs.Ytipfcfaigbeakaa

namespace Go.Proofs.Ytipfcfaigbeakaa
open Go.RowKit
set_option maxRecDepth 100000

def bitI (n : Int) (i : Nat) : Int := n / 2 ^ i % 2
theorem pow_pos' (i : Nat) : (0 : Int) < 2 ^ i := Int.pow_pos (by decide)
theorem bitI_bd (n : Int) (i : Nat) : 0 ≤ bitI n i ∧ bitI n i ≤ 1 := by unfold bitI; omega
theorem bitI_mod (n : Int) (m i : Nat) (h : i < m) : bitI (n % 2 ^ m) i = bitI n i := mod_bit m n i h
theorem mod_succ (n : Int) (m : Nat) : n % 2 ^ (m + 1) = n % 2 ^ m + bitI n m * 2 ^ m := by
  have h0 := pow_pos' m
  have h1 := Int.mul_ediv_add_emod n (2 ^ m)
  have h2 := Int.mul_ediv_add_emod (n / 2 ^ m) 2
  have h3 := Int.emod_lt_of_pos n h0
  have h4 := Int.emod_nonneg n (show (2 : Int) ^ m ≠ 0 by omega)
  have hb := bitI_bd n m
  have e : n = (n % 2 ^ m + bitI n m * 2 ^ m) + (n / 2 ^ m / 2) * 2 ^ (m + 1) := by
    have e1 : n / 2 ^ m = 2 * (n / 2 ^ m / 2) + bitI n m := by unfold bitI; omega
    have e2 : (n / 2 ^ m / 2) * 2 ^ (m + 1) = 2 ^ m * (2 * (n / 2 ^ m / 2)) := by
      rw [Int.pow_succ]; generalize n / 2 ^ m / 2 = t; rw [Int.mul_comm t, Int.mul_assoc]
    have e3 : 2 ^ m * (n / 2 ^ m) = 2 ^ m * (2 * (n / 2 ^ m / 2)) + 2 ^ m * bitI n m := by rw [← Int.mul_add, ← e1]
    rw [e2, Int.mul_comm (bitI n m)]
    omega
  have hlt : bitI n m * 2 ^ m ≤ 2 ^ m := by
    rcases (show bitI n m = 0 ∨ bitI n m = 1 by omega) with h | h <;> rw [h] <;> omega
  have hnn : 0 ≤ bitI n m * 2 ^ m := Int.mul_nonneg hb.1 (by omega)
  conv => lhs; rw [e]
  rw [Int.add_mul_emod_self_right]
  apply Int.emod_eq_of_lt
  · omega
  · rw [Int.pow_succ]; omega
theorem fromS_eq (l : List Int) (N : Int) (m : Nat) (hm : m ≤ 63) (h : ∀ i, i < m → l.getD i 0 = bitI N i) : fromS l m = N % 2 ^ m := by
  induction m with
  | zero => simp [fromS]
  | succ m ih =>
    have h1 := ih (by omega) (fun i hi => h i (by omega))
    have h2 := h m (by omega)
    rw [mod_succ]
    unfold fromS
    rw [h2, if_neg (show ¬ m = 63 by omega), h1]
    have hb := bitI_bd N m
    rcases (show bitI N m = 0 ∨ bitI N m = 1 by omega) with h | h <;> rw [h] <;> simp
theorem fromS_mod (l : List Int) (N : Int) (m : Nat) (hm : m ≤ 64) (h : ∀ i, i < m → l.getD i 0 = bitI N i) : fromS l m % 2 ^ m = N % 2 ^ m ∧ I64 (fromS l m) := by
  by_cases h63 : m ≤ 63
  · rw [fromS_eq l N m h63 h]
    have h1 := Int.emod_lt_of_pos N (pow_pos' m)
    have h2 := Int.emod_nonneg N (show (2 : Int) ^ m ≠ 0 by have := pow_pos' m; omega)
    refine ⟨Int.emod_emod_of_dvd _ (Int.dvd_refl _), ?_⟩
    have h3 : (2 : Int) ^ m ≤ 9223372036854775808 := by
      have h1 : (2 : Nat) ^ m ≤ 2 ^ 63 := Nat.pow_le_pow_right (by decide) h63
      have h2 : ((2 ^ m : Nat) : Int) ≤ ((2 ^ 63 : Nat) : Int) := Int.ofNat_le.2 h1
      rw [Int.natCast_pow] at h2
      exact h2
    unfold I64; omega
  · obtain rfl : m = 64 := by omega
    have h1 := fromS_eq l N 63 (by decide) (fun i hi => h i (by omega))
    have h2 := h 63 (by omega)
    have h3 := mod_succ N 63
    have e63 : (2 : Int) ^ 63 = 9223372036854775808 := by decide
    have e64 : (2 : Int) ^ (63 + 1) = 18446744073709551616 := by decide
    have hb := bitI_bd N 63
    have e : fromS l 64 = if l.getD 63 0 = 0 then fromS l 63 else if (63 : Nat) = 63 then fromS l 63 + -9223372036854775808 else fromS l 63 + 2 ^ 63 := rfl
    rw [h2, h1, e63] at e
    rw [e63, e64] at h3
    rw [if_pos rfl] at e
    have e64' : (2 : Int) ^ 64 = 18446744073709551616 := by decide
    rw [e64', e]
    rcases (show bitI N 63 = 0 ∨ bitI N 63 = 1 by omega) with hh | hh
    · rw [hh] at h3 ⊢
      simp only [if_true]
      unfold I64
      omega
    · rw [hh] at h3 ⊢
      simp only [show ¬ (1 : Int) = 0 by decide, if_false]
      unfold I64
      omega
theorem eq_of_mod64 {x y : Int} (hx : I64 x) (hy : I64 y) (h : x % 18446744073709551616 = y % 18446744073709551616) : x = y := by unfold I64 at hx hy; omega
theorem wkr_congr {k x y : Int} (hx : I64 x) (hy : I64 y) (h : x % 2 ^ wid k = y % 2 ^ wid k) : wkr k x = wkr k y := by
  have e1 : wid 1 = 1 := by decide
  have e2 : wid 2 = 8 := by decide
  have e3 : wid 3 = 16 := by decide
  have e4 : wid 4 = 32 := by decide
  have e5 : wid 5 = 64 := by decide
  have e6 : wid 6 = 8 := by decide
  have e7 : wid 7 = 16 := by decide
  have e8 : wid 8 = 32 := by decide
  have e9 : wid 9 = 64 := by decide
  have p1 : (2 : Int) ^ 1 = 2 := by decide
  have p8 : (2 : Int) ^ 8 = 256 := by decide
  have p16 : (2 : Int) ^ 16 = 65536 := by decide
  have p32 : (2 : Int) ^ 32 = 4294967296 := by decide
  have p64 : (2 : Int) ^ 64 = 18446744073709551616 := by decide
  rcases kinds k with rfl | rfl | rfl | rfl | rfl | rfl | rfl | rfl | rfl | hk
  · rw [e1, p1] at h; rw [wkr_1, wkr_1, h]
  · rw [e2, p8] at h; rw [wkr_2, wkr_2]; omega
  · rw [e3, p16] at h; rw [wkr_3, wkr_3]; omega
  · rw [e4, p32] at h; rw [wkr_4, wkr_4]; omega
  · rw [e5, p64] at h; rw [wkr_5, wkr_5]; exact eq_of_mod64 hx hy h
  · rw [e6, p8] at h; rw [wkr_6, wkr_6]; omega
  · rw [e7, p16] at h; rw [wkr_7, wkr_7]; omega
  · rw [e8, p32] at h; rw [wkr_8, wkr_8]; omega
  · rw [e9, p64] at h; rw [wkr_9, wkr_9]; exact eq_of_mod64 hx hy h
  · rw [wkr_none _ hk, wkr_none _ hk]
/-- What a list of bits is, if it has the bits of a number. -/
theorem wkr_fromS {k N : Int} (l : List Int) (hN : I64 N) (h : ∀ i, i < wid k → l.getD i 0 = bitI N i) : wkr k (fromS l (wid k)) = wkr k N := by
  obtain ⟨h1, h2⟩ := fromS_mod l N (wid k) (wid_le k) h
  exact wkr_congr h2 hN h1
theorem bitI_nat (N i : Nat) : bitI (N : Int) i = if N.testBit i then 1 else 0 := by
  have h : bitI (N : Int) i = ((N / 2 ^ i % 2 : Nat) : Int) := by unfold bitI; simp
  rw [h, Nat.testBit_eq_decide_div_mod_eq]
  have : N / 2 ^ i % 2 = 0 ∨ N / 2 ^ i % 2 = 1 := by omega
  rcases this with h | h <;> simp [h]
theorem bitI_ofInt (a : Int) (i : Nat) (hi : i < 64) : bitI a i = if (BitVec.ofInt 64 a).toNat.testBit i then 1 else 0 := by
  rw [← bitI_nat, BitVec.toNat_ofInt]
  have h : (((a % ((2 ^ 64 : Nat) : Int)).toNat : Nat) : Int) = a % 2 ^ 64 := by
    have := Int.emod_nonneg a (show ((2 ^ 64 : Nat) : Int) ≠ 0 by decide)
    rw [Int.toNat_of_nonneg this]; rfl
  rw [h, bitI_mod a 64 i hi]
theorem bitI_wrap (n : Int) (i : Nat) (hi : i < 64) : bitI (IntKind.i64.wrap n) i = bitI n i := by
  rw [← bitI_mod _ 64 i hi, ← bitI_mod n 64 i hi]
  congr 1
  have e64 : (2 : Int) ^ 64 = 18446744073709551616 := by decide
  rw [e64, IntKind.wrap_i64]; omega
theorem wrapI64 (n : Int) : I64 (IntKind.i64.wrap n) := by rw [IntKind.wrap_i64]; unfold I64; omega
theorem bitI_and (a b : Int) (i : Nat) (hi : i < 64) : bitI (bits .and .i64 a b) i = bitI a i * bitI b i := by
  rw [bits_and64, bitI_wrap _ i hi, bitI_nat, BitVec.toNat_and, Nat.testBit_and, bitI_ofInt a i hi, bitI_ofInt b i hi]
  cases (BitVec.ofInt 64 a).toNat.testBit i <;> cases (BitVec.ofInt 64 b).toNat.testBit i <;> rfl
theorem bitI_or (a b : Int) (i : Nat) (hi : i < 64) : bitI (bits .or .i64 a b) i = if bitI b i = 1 then 1 else bitI a i := by
  rw [bits_or64, bitI_wrap _ i hi, bitI_nat, BitVec.toNat_or, Nat.testBit_or, bitI_ofInt a i hi, bitI_ofInt b i hi]
  cases (BitVec.ofInt 64 a).toNat.testBit i <;> cases (BitVec.ofInt 64 b).toNat.testBit i <;> rfl
theorem bitI_xor (a b : Int) (i : Nat) (hi : i < 64) : bitI (bits .xor .i64 a b) i = (bitI a i + bitI b i) % 2 := by
  rw [bits_xor64, bitI_wrap _ i hi, bitI_nat, BitVec.toNat_xor, Nat.testBit_xor, bitI_ofInt a i hi, bitI_ofInt b i hi]
  cases (BitVec.ofInt 64 a).toNat.testBit i <;> cases (BitVec.ofInt 64 b).toNat.testBit i <;> rfl
theorem bitsI64 (o : BinOp) (a b : Int) (h : o = .and ∨ o = .or ∨ o = .xor) : I64 (bits o .i64 a b) := by
  rcases h with rfl | rfl | rfl
  · rw [bits_and64]; exact wrapI64 _
  · rw [bits_or64]; exact wrapI64 _
  · rw [bits_xor64]; exact wrapI64 _
theorem bitI_neg1 (i : Nat) : bitI (-1) i = 1 := by
  unfold bitI
  have h0 := pow_pos' i
  have : (-1 : Int) / 2 ^ i = -1 := by
    have h := Int.ediv_emod_unique (a := -1) (r := 2 ^ i - 1) (q := -1) h0
    exact (h.2 ⟨by omega, by omega, by omega⟩).1
  rw [this]; rfl
theorem bitsL_getD (m : Nat) (n : Int) (i : Nat) (hi : i < m) : (bitsL m n).getD i 0 = bitI n i := by
  simp [bitsL, List.getD_eq_getElem?_getD, hi, bitI]

def bitOp (op x y : Int) : Int := if op = 8 then x * y else if op = 9 then (if y = 1 then 1 else x) else (x + y) % 2
theorem bitsL_bit (m : Nat) (n : Int) (j : Nat) (x : Int) (h : (bitsL m n)[j]? = some x) : 0 ≤ x ∧ x ≤ 1 := by
  simp only [bitsL, List.getElem?_map] at h
  cases h2 : (List.range m)[j]? with
  | none => simp [h2] at h
  | some i => simp [h2] at h; omega
theorem zip_getD (f : Int → Int → Int) (m : Nat) (a b : Int) (i : Nat) (hi : i < m) : (List.zipWith f (bitsL m a) (bitsL m b)).getD i 0 = f (bitI a i) (bitI b i) := by
  simp [bitsL, List.getD_eq_getElem?_getD, hi, bitI]
theorem law_and (k a b : Int) : wkr k (fromS (List.zipWith (bitOp 8) (bitsL (wid k) a) (bitsL (wid k) b)) (wid k)) = wkr k (bits .and .i64 a b) :=
  wkr_fromS _ (bitsI64 _ _ _ (by simp)) fun i hi => by rw [zip_getD _ _ _ _ _ hi, bitI_and _ _ _ (Nat.lt_of_lt_of_le hi (wid_le k))]; rfl
theorem law_or (k a b : Int) : wkr k (fromS (List.zipWith (bitOp 9) (bitsL (wid k) a) (bitsL (wid k) b)) (wid k)) = wkr k (bits .or .i64 a b) :=
  wkr_fromS _ (bitsI64 _ _ _ (by simp)) fun i hi => by rw [zip_getD _ _ _ _ _ hi, bitI_or _ _ _ (Nat.lt_of_lt_of_le hi (wid_le k))]; rfl
theorem law_xor (k a b : Int) : wkr k (fromS (List.zipWith (bitOp 10) (bitsL (wid k) a) (bitsL (wid k) b)) (wid k)) = wkr k (bits .xor .i64 a b) :=
  wkr_fromS _ (bitsI64 _ _ _ (by simp)) fun i hi => by rw [zip_getD _ _ _ _ _ hi, bitI_xor _ _ _ (Nat.lt_of_lt_of_le hi (wid_le k))]; rfl
theorem law_not (k a : Int) : wkr k (fromS ((bitsL (wid k) a).map (fun x => 1 - x)) (wid k)) = wkr k (bits .xor .i64 (-1) a) :=
  wkr_fromS _ (bitsI64 _ _ _ (by simp)) fun i hi => by
    rw [bitI_xor _ _ _ (Nat.lt_of_lt_of_le hi (wid_le k)), bitI_neg1]
    have h1 : ((bitsL (wid k) a).map (fun x => 1 - x)).getD i 0 = 1 - bitI a i := by simp [bitsL, List.getD_eq_getElem?_getD, hi, bitI]
    rw [h1]
    have := bitI_bd a i
    omega
theorem isk_one {a : Int} (h : isk 1 a = true) : a = 0 ∨ a = 1 := by
  simp only [isk, Bool.and_eq_true, beq_iff_eq, wkr_1] at h
  omega
theorem law_not1 {a : Int} (h : isk 1 a = true) : wkr 1 (bits .xor .i64 (-1) a) = wrap64 (1 - a) := by
  rcases isk_one h with rfl | rfl <;> decide +kernel
theorem law_imp {a b : Int} (hb : isk 1 b = true) : (a == 0 || b == 1) = (a == 0 || b != 0) := by
  rcases isk_one hb with rfl | rfl <;> rfl

theorem law_div9 (a b : Int) (_hb : b % 18446744073709551616 ≠ 0) : wrap64 (IntKind.u64.wrap ((IntKind.u64.wrap a).tdiv (IntKind.u64.wrap b))) = wrap64 (a % 18446744073709551616 / (b % 18446744073709551616)) := by
  have h1 : 0 ≤ a % 18446744073709551616 := by omega
  have h2 : 0 ≤ b % 18446744073709551616 := by omega
  apply wrap64_congr
  simp only [u64_eq]
  rw [Int.tdiv_eq_ediv_of_nonneg h1]
  omega
theorem law_mod9 (a b : Int) : wrap64 ((IntKind.u64.wrap a).tmod (IntKind.u64.wrap b)) = wrap64 (a % 18446744073709551616 % (b % 18446744073709551616)) := by
  have h1 : 0 ≤ a % 18446744073709551616 := by omega
  simp only [u64_eq]
  rw [Int.tmod_eq_emod_of_nonneg h1]

theorem movAt_shl (m : Nat) (X : List Int) (U : Int) (i : Nat) (hU : 0 ≤ U) (hi : i < m) : movAt 12 m X U 0 i = if (i : Int) < U then 0 else if U < m then X.getD ((i : Int) - U).toNat 0 else 0 := by
  unfold movAt
  simp only [movFrom, show ¬ ((12 : Int) = 13) by decide, if_false]
  by_cases h1 : (i : Int) < U
  · rw [if_neg (by omega), if_pos h1]
  · rw [if_neg h1]
    by_cases h2 : U < m
    · rw [if_pos (by omega), if_pos h2]
    · rw [if_neg (by omega), if_neg h2]
theorem bitI_shl (a : Int) (u i : Nat) : bitI (a * 2 ^ u) i = if i < u then 0 else bitI a (i - u) := by
  unfold bitI
  have h0 := pow_pos' i
  by_cases h : i < u
  · rw [if_pos h]
    obtain ⟨d, rfl⟩ := Nat.le.dest (show i + 1 ≤ u by omega)
    have e : a * 2 ^ (i + 1 + d) = (2 * (a * 2 ^ d)) * 2 ^ i := by
      rw [Int.pow_add, Int.pow_succ]
      simp only [Int.mul_assoc, Int.mul_comm, Int.mul_left_comm]
    rw [e, Int.mul_ediv_cancel _ (by omega)]
    omega
  · rw [if_neg h]
    obtain ⟨d, rfl⟩ := Nat.le.dest (show u ≤ i by omega)
    have hu := pow_pos' u
    rw [show u + d - u = d by omega, Int.pow_add, ← Int.ediv_ediv_of_nonneg (by omega), Int.mul_ediv_cancel _ (by omega)]
theorem movedL_getD (op : Int) (m : Nat) (X : List Int) (U f0 : Int) (i : Nat) (hi : i < m) : (movedL op m X U f0).getD i 0 = movAt op m X U f0 i := by
  simp [movedL, List.getD_eq_getElem?_getD, hi]
theorem ubits_eq (k n : Int) : ubits k n = n % 2 ^ wid k := rfl
theorem law_shl (k a b : Int) : wkr k (fromS (movedL 12 (wid k) (bitsL (wid k) a) (b % 2 ^ wid k) 0) (wid k)) = wkr k (shlv k a k b) := by
  have hU0 : 0 ≤ b % 2 ^ wid k := Int.emod_nonneg _ (by have := pow_pos' (wid k); omega)
  have hw := width_wid k
  apply wkr_fromS
  · unfold shlv; split
    · unfold I64; omega
    · exact wrap64_I64 _
  intro i hi
  rw [movedL_getD _ _ _ _ _ _ hi, movAt_shl _ _ _ _ hU0 hi]
  unfold shlv
  rw [ubits_eq, ubits_eq, hw]
  obtain ⟨u, hu⟩ := Int.eq_ofNat_of_zero_le hU0
  rw [hu]
  by_cases h : (wid k : Int) ≤ (u : Int)
  · rw [if_pos h, if_pos (by omega)]; unfold bitI; simp
  · rw [if_neg h, Int.toNat_natCast]
    have hi64 : i < 64 := Nat.lt_of_lt_of_le hi (wid_le k)
    have e : bitI (wrap64 (IntKind.u64.wrap (a % 2 ^ wid k * 2 ^ u))) i = bitI (a % 2 ^ wid k * 2 ^ u) i := by
      rw [← bitI_mod _ 64 i hi64, ← bitI_mod (a % 2 ^ wid k * 2 ^ u) 64 i hi64]
      congr 1
      have e64 : (2 : Int) ^ 64 = 18446744073709551616 := by decide
      rw [e64, wrap64_mod, u64_eq]; omega
    rw [e, bitI_shl]
    by_cases h2 : i < u
    · rw [if_pos (by omega), if_pos h2]
    · rw [if_neg (by omega), if_neg h2, if_pos (by omega), show ((i : Int) - (u : Int)).toNat = i - u by omega, bitsL_getD _ _ _ (by omega), bitI_mod _ _ _ (by omega)]
theorem bitI_shr (a : Int) (u i : Nat) : bitI (a / 2 ^ u) i = bitI a (i + u) := by
  unfold bitI
  rw [Int.ediv_ediv_of_nonneg (Int.pow_nonneg (by decide)), ← Int.pow_add, Nat.add_comm]
theorem movAt_shr (m : Nat) (X : List Int) (U f0 : Int) (i : Nat) (hU : 0 ≤ U) : movAt 13 m X U f0 i = if (i : Int) + U < m then X.getD ((i : Int) + U).toNat 0 else f0 := by
  unfold movAt
  simp only [movFrom, if_true]
  by_cases h1 : (i : Int) + U < m
  · rw [if_pos (by omega), if_pos h1]
  · rw [if_neg (by omega), if_neg h1]
theorem bitI_big {a : Int} {m j : Nat} (h0 : 0 ≤ a) (h1 : a < 2 ^ m) (hj : m ≤ j) : bitI a j = 0 := by
  unfold bitI
  have h2 : (2 : Int) ^ m ≤ 2 ^ j := by
    obtain ⟨d, rfl⟩ := Nat.le.dest hj
    rw [Int.pow_add]
    have := pow_pos' d; have := pow_pos' m
    have := Int.mul_le_mul_of_nonneg_left (show (1 : Int) ≤ 2 ^ d by omega) (show 0 ≤ (2 : Int) ^ m by omega)
    omega
  rw [Int.ediv_eq_zero_of_lt h0 (by omega)]; rfl
theorem law_shr_u (k a b : Int) (hs : sgn k = false) : wkr k (fromS (movedL 13 (wid k) (bitsL (wid k) a) (b % 2 ^ wid k) 0) (wid k)) = wkr k (shrv k a k b) := by
  have hU0 : 0 ≤ b % 2 ^ wid k := Int.emod_nonneg _ (by have := pow_pos' (wid k); omega)
  have hA0 : 0 ≤ a % 2 ^ wid k := Int.emod_nonneg _ (by have := pow_pos' (wid k); omega)
  have hA1 : a % 2 ^ wid k < 2 ^ wid k := Int.emod_lt_of_pos _ (pow_pos' _)
  have hw := width_wid k
  have e : shrv k a k b = wrap64 (a % 2 ^ wid k / 2 ^ (shrBy k k b).toNat) := by unfold shrv; rw [hs]; rfl
  rw [e]
  apply wkr_fromS _ (wrap64_I64 _)
  intro i hi
  have hi64 : i < 64 := Nat.lt_of_lt_of_le hi (wid_le k)
  have e2 : bitI (wrap64 (a % 2 ^ wid k / 2 ^ (shrBy k k b).toNat)) i = bitI (a % 2 ^ wid k / 2 ^ (shrBy k k b).toNat) i := by
    rw [← bitI_mod _ 64 i hi64, ← bitI_mod (a % 2 ^ wid k / 2 ^ (shrBy k k b).toNat) 64 i hi64]
    congr 1
    have e64 : (2 : Int) ^ 64 = 18446744073709551616 := by decide
    rw [e64, wrap64_mod]
  rw [e2, bitI_shr, movedL_getD _ _ _ _ _ _ hi, movAt_shr _ _ _ _ _ hU0]
  obtain ⟨u, hu⟩ := Int.eq_ofNat_of_zero_le hU0
  have hb : shrBy k k b = if (wid k : Int) ≤ u then 64 else (u : Int) := by unfold shrBy; rw [ubits_eq, hu, hw]
  rw [hu, hb]
  by_cases h : (wid k : Int) ≤ (u : Int)
  · rw [if_pos h, if_neg (by omega)]
    exact (bitI_big hA0 hA1 (by have := wid_le k; show wid k ≤ i + (64 : Int).toNat; omega)).symm
  · rw [if_neg h, Int.toNat_natCast]
    by_cases h2 : (i : Int) + u < wid k
    · rw [if_pos h2, show ((i : Int) + (u : Int)).toNat = i + u by omega, bitsL_getD _ _ _ (by omega), bitI_mod _ _ _ (by omega)]
    · rw [if_neg h2]
      exact (bitI_big hA0 hA1 (by omega)).symm
/-- A signed value's bits from its sign on. -/
theorem bitI_sign {a : Int} {m j : Nat} (h0 : -(2 ^ m) ≤ a) (h1 : a < 2 ^ m) (hj : m ≤ j) : bitI a j = if a < 0 then 1 else 0 := by
  by_cases h : a < 0
  · rw [if_pos h]
    unfold bitI
    have h2 : (2 : Int) ^ m ≤ 2 ^ j := by
      obtain ⟨d, rfl⟩ := Nat.le.dest hj
      rw [Int.pow_add]
      have := pow_pos' d; have := pow_pos' m
      have := Int.mul_le_mul_of_nonneg_left (show (1 : Int) ≤ 2 ^ d by omega) (show 0 ≤ (2 : Int) ^ m by omega)
      omega
    have h3 : a / 2 ^ j = -1 := by
      have h := Int.ediv_emod_unique (a := a) (r := a + 2 ^ j) (q := -1) (pow_pos' j)
      exact (h.2 ⟨by omega, by omega, by omega⟩).1
    rw [h3]; rfl
  · rw [if_neg h]; exact bitI_big (by omega) h1 hj
theorem isk_signed {k a : Int} (hs : sgn k = true) (h : isk k a = true) : ∃ m, wid k = m + 1 ∧ -(2 ^ m) ≤ a ∧ a < 2 ^ m ∨ k = 5 := by
  simp only [sgn, Bool.and_eq_true, decide_eq_true_eq] at hs
  simp only [isk, Bool.and_eq_true, beq_iff_eq] at h
  have p7 : (2 : Int) ^ 7 = 128 := by decide
  have p15 : (2 : Int) ^ 15 = 32768 := by decide
  have p31 : (2 : Int) ^ 31 = 2147483648 := by decide
  rcases (show k = 2 ∨ k = 3 ∨ k = 4 ∨ k = 5 by omega) with rfl | rfl | rfl | rfl
  · rw [wkr_2] at h; exact ⟨7, .inl ⟨by decide, by omega, by omega⟩⟩
  · rw [wkr_3] at h; exact ⟨15, .inl ⟨by decide, by omega, by omega⟩⟩
  · rw [wkr_4] at h; exact ⟨31, .inl ⟨by decide, by omega, by omega⟩⟩
  · exact ⟨0, .inr rfl⟩
theorem signed_bd {k a : Int} (ha : I64 a) (hs : sgn k = true) (h : isk k a = true) : ∃ m, wid k = m + 1 ∧ -(2 ^ m) ≤ a ∧ a < 2 ^ m := by
  obtain ⟨m, h1 | rfl⟩ := isk_signed hs h
  · exact ⟨m, h1⟩
  · refine ⟨63, by decide, ?_⟩
    have p63 : (2 : Int) ^ 63 = 9223372036854775808 := by decide
    unfold I64 at ha; rw [p63]; omega
theorem law_shr_s (k a b : Int) (ha : I64 a) (hs : sgn k = true) (hi : isk k a = true) : wkr k (fromS (movedL 13 (wid k) (bitsL (wid k) a) (b % 2 ^ wid k) (if a < 0 then 1 else 0)) (wid k)) = wkr k (shrv k a k b) := by
  have hU0 : 0 ≤ b % 2 ^ wid k := Int.emod_nonneg _ (by have := pow_pos' (wid k); omega)
  have hw := width_wid k
  obtain ⟨m, hm, hm0, hm1⟩ := signed_bd ha hs hi
  have e : shrv k a k b = a / 2 ^ (shrBy k k b).toNat := by unfold shrv; rw [hs]; rfl
  rw [e]
  have hI : ∀ s : Nat, I64 (a / 2 ^ s) := fun s => by
    have hp := pow_pos' s
    unfold I64 at ha ⊢
    by_cases h : 0 ≤ a
    · have h1 := Int.ediv_nonneg h (show 0 ≤ (2 : Int) ^ s by omega)
      have h2 := Int.ediv_le_self (2 ^ s) h
      omega
    · have h1 : a ≤ a / 2 ^ s := by
        have h3 := Int.mul_ediv_add_emod a (2 ^ s)
        have h4 := Int.emod_nonneg a (show (2 : Int) ^ s ≠ 0 by omega)
        have h5 := Int.emod_lt_of_pos a hp
        have h6 : a / 2 ^ s < 0 := Int.ediv_neg_of_neg_of_pos (by omega) hp
        have h7 : 2 ^ s * (a / 2 ^ s + 1) ≤ 1 * (a / 2 ^ s + 1) := Int.mul_le_mul_of_nonpos_right (show (1 : Int) ≤ 2 ^ s by omega) (show a / 2 ^ s + 1 ≤ 0 by omega)
        rw [Int.mul_add] at h7
        omega
      have h2 : a / 2 ^ s < 0 := Int.ediv_neg_of_neg_of_pos (by omega) hp
      omega
  apply wkr_fromS _ (hI _)
  intro i hi'
  rw [bitI_shr, movedL_getD _ _ _ _ _ _ hi', movAt_shr _ _ _ _ _ hU0]
  obtain ⟨u, hu⟩ := Int.eq_ofNat_of_zero_le hU0
  have hb : shrBy k k b = if (wid k : Int) ≤ u then 64 else (u : Int) := by unfold shrBy; rw [ubits_eq, hu, hw]
  rw [hu, hb]
  by_cases h : (wid k : Int) ≤ (u : Int)
  · rw [if_pos h, if_neg (by omega)]
    exact (bitI_sign hm0 hm1 (by have := wid_le k; show m ≤ i + (64 : Int).toNat; omega)).symm
  · rw [if_neg h, Int.toNat_natCast]
    by_cases h2 : (i : Int) + u < wid k
    · rw [if_pos h2, show ((i : Int) + (u : Int)).toNat = i + u by omega, bitsL_getD _ _ _ (by omega)]
    · rw [if_neg h2]
      exact (bitI_sign hm0 hm1 (by omega)).symm
end Go.Proofs.Ytipfcfaigbeakaa

namespace Go.Proofs.Ytipfcfaigbeakaa
open Go.RowKit
set_option maxRecDepth 100000

def runv (op k a : Int) : Int × Bool :=
  if isk k a = false then (0, false) else if op = 1 then (wkr k (fromS ((bitsL (wid k) a).map (fun x => 1 - x)) (wid k)), true)
  else if op = 2 ∧ k ≠ 1 then (wkr k (wrap64 (-a)), true) else (0, false)

set_option maxHeartbeats 1000000 in
theorem refUn_not (k a : Int) (hi : isk k a = true) (w : World) :
    Calls Try.prog 60 #[.int .i64 1, .int .i64 k, .int .i64 a] w fun e w' => e = .returned (.tuple #[.int .i64 (wkr k (fromS ((bitsL (wid k) a).map (fun x => 1 - x)) (wid k))), .bool true]) ∧ Ext w w' := by
  have hpos : 0 < wid k := by
    have h : decide (0 < width k) = true := by simp only [isk, Bool.and_eq_true] at hi; exact hi.1
    have := width_wid k
    simp at h; omega
  have hm64 := wid_le k
  obtain ⟨L, hL⟩ : ∃ L, L = bitsL (wid k) a := ⟨_, rfl⟩
  have hbit : ∀ (j : Nat) (x : Int), L[j]? = some x → 0 ≤ x ∧ x ≤ 1 := fun j x h => bitsL_bit (wid k) a j x (hL ▸ h)
  have hlen : L.length = wid k := by rw [hL]; exact bitsL_length _ _
  have hbits := fun (w : World) => refBits_any k a w
  rw [← hL] at hbits ⊢
  clear hL
  obtain ⟨m, hm⟩ : ∃ m, m = wid k := ⟨_, rfl⟩
  rw [← hm] at hpos hm64 hlen hbits ⊢
  have HM := Lib.hid hm
  clear hm
  have HL := Lib.hid hlen
  have HBT := Lib.hid hbits
  clear hlen hbits
  obtain ⟨B, hB⟩ : ∃ B, B = w.heap.size := ⟨_, rfl⟩
  have HB := Lib.hid hB
  clear hB
  go_enter Try.func60, Try.ntmps60
  go_wp2_with (first | (go_at_call 45; refine (refIs_any _ _ _).mono ?_; rintro e w' ⟨rfl, rfl⟩) | (go_at_call 89; refine (HBT.out _).mono ?_; rintro e w1 ⟨v, rfl, hown, hx⟩))
  obtain ⟨g, cap, rfl, hg, hcap, hgs⟩ := ownsRow_some hown hpos
  have hb : Below w.heap.size w w1 := hx
  rw [← HB.out] at hown hg hb
  clear hx
  go_loopw [9] (fun i wr => ∃ j : Nat, j ≤ m ∧ i = .int .i64 j ∧ wr.ownsRow B 3 1 (.slice (some ⟨g, 0, none⟩) m cap) m ((mix (fun x => 1 - x) L j).map (.int .i64)) ∧ Below B w wr) (fun i _ => m - (intOf i).toNat)
  case atStart => exact ⟨0, Nat.zero_le _, rfl, by rw [mix_zero]; exact hown, hb⟩
  case round =>
    clear hown hb
    obtain ⟨j, hj, rfl, hown, hb⟩ := hrel
    by_cases hlt : j < m
    · obtain ⟨x, hx⟩ : ∃ x, L[j]? = some x := ⟨_, List.getElem?_eq_getElem (by have := HL.out; omega)⟩
      have hbx := hbit j x hx
      have hmx := mix_at (fun x => 1 - x) L j x hx
      have hcell : wr.cell? ⟨g, j, none⟩ = some (.int .i64 x) := by rw [hown.cellAt j (by omega)]; simp [hmx]
      have hfr := hown.frozenAt j
      obtain ⟨hown', hgr⟩ := hown.stored j (.int .i64 (1 - x))
      have R := Lib.hid (And.intro hown' (And.intro hgr (Lib.hid (mix_set (fun x => 1 - x) L j x hx))))
      have hx0 : 0 ≤ x := hbx.1
      have hx1 : x ≤ 1 := hbx.2
      clear hown hown' hgr hmx hx hbit hbx
      go_wp2
      go_roundw
      case rel => exact ⟨j + 1, by omega, by go_num, by have h1 := R.out.1; rw [← List.map_set, R.out.2.2.out] at h1; exact h1, hb.setCell hg _⟩
      case measure => simp [intOf]; omega
    · obtain rfl : j = m := by omega
      rw [mix_all _ _ _ (by rw [HL.out]; omega)] at hown
      have hs := SlC.of_owns hown
      have hlen : (L.map (fun x => 1 - x)).length = j := by simp [HL.out]
      have HF := Lib.hid (refFrom_any k (L.map (fun x => 1 - x)) (.slice (some ⟨g, 0, none⟩) j cap) wr (by rw [hlen]; exact hs) (by rw [hlen]; omega))
      rw [hlen, ← HM.out, Nat.min_self] at HF
      clear hs hown hlen
      go_wp2_with (first | (go_at_call 90; refine HF.out.mono ?_; rintro e w' ⟨rfl, rfl⟩))
      go_ret2
      exact ⟨rfl, by unfold Ext; rw [← HB.out]; exact hb⟩

theorem refUn_any (op k a : Int) (w : World) :
    Calls Try.prog 60 #[.int .i64 op, .int .i64 k, .int .i64 a] w fun e w' => e = .returned (.tuple #[.int .i64 (runv op k a).1, .bool (runv op k a).2]) ∧ Ext w w' := by
  cases hi : isk k a
  · have hv : runv op k a = (0, false) := by simp [runv, hi]
    rw [hv]
    go_enter Try.func60, Try.ntmps60
    go_wp2_with (first | (go_at_call 45; refine (refIs_any _ _ _).mono ?_; rintro e w' ⟨rfl, rfl⟩))
    go_ret2
    exact ⟨rfl, Ext.refl _⟩
  by_cases h1 : op = 1
  · subst h1
    have hv : runv 1 k a = (wkr k (fromS ((bitsL (wid k) a).map (fun x => 1 - x)) (wid k)), true) := by simp [runv, hi]
    rw [hv]
    exact refUn_not k a hi w
  have b1 : (op == 1) = false := by simpa using h1
  have hv : runv op k a = if op = 2 ∧ k ≠ 1 then (wkr k (wrap64 (-a)), true) else (0, false) := by simp [runv, hi, h1]
  have HV := Lib.hid hv
  clear hv h1
  go_enter Try.func60, Try.ntmps60
  go_wp2_with (first | (go_at_call 45; refine (refIs_any _ _ _).mono ?_; rintro e w' ⟨rfl, rfl⟩) | (go_at_call 76; refine (refWrap_any _ _ _).mono ?_; rintro e w' ⟨rfl, rfl⟩))
  all_goals go_ret2
  all_goals rw [HV.out]
  all_goals refine ⟨?_, Ext.refl _⟩
  all_goals simp_all
end Go.Proofs.Ytipfcfaigbeakaa

namespace Go.Proofs.Ytipfcfaigbeakaa
open Go.RowKit
set_option maxRecDepth 100000


/-- The round of 'bitwise', for one operation. -/
def BwInv (B g cap g2 cap2 m : Nat) (f : Int → Int → Int) (X Y : List Int) (w wr : World) (j : Nat) : Prop :=
  wr.ownsRow B 3 1 (.slice (some ⟨g, 0, none⟩) m cap) m ((mix2 f X Y j).map (.int .i64)) ∧ wr.ownsRow B 3 1 (.slice (some ⟨g2, 0, none⟩) m cap2) m (Y.map (.int .i64)) ∧ Below B w wr ∧ g < wr.heap.size ∧ g2 < wr.heap.size

theorem BwInv.read {B g cap g2 cap2 m : Nat} {f : Int → Int → Int} {X Y : List Int} {w wr : World} {j : Nat} {x y : Int} (h : BwInv B g cap g2 cap2 m f X Y w wr j) (hj : j < m) (hl : X.length = Y.length) (hx : X[j]? = some x) (hy : Y[j]? = some y) :
    wr.cell? ⟨g, j, none⟩ = some (.int .i64 x) ∧ wr.cell? ⟨g2, j, none⟩ = some (.int .i64 y) ∧ wr.frozen? ⟨g, j, none⟩ = false := by
  obtain ⟨h1, h2, _⟩ := h
  refine ⟨?_, ?_, h1.frozenAt j⟩
  · rw [h1.cellAt j (by omega), List.getElem?_map, mix2_at f X Y j x hl hx]; rfl
  · rw [h2.cellAt j (by omega), List.getElem?_map, hy]; rfl

theorem BwInv.write {B g cap g2 cap2 m : Nat} {f : Int → Int → Int} {X Y : List Int} {w wr : World} {j : Nat} {x y : Int} (h : BwInv B g cap g2 cap2 m f X Y w wr j) (hg : B ≤ g) (hne : g ≠ g2) (hl : X.length = Y.length) (hx : X[j]? = some x) (hy : Y[j]? = some y) (w' : World) (he : Ext wr w') :
    BwInv B g cap g2 cap2 m f X Y w (w'.setCell ⟨g, j, none⟩ (.int .i64 (f x y))) (j + 1) := by
  obtain ⟨h1, h2, h3, h4, h5⟩ := h
  have h1' := ownsRow_ext h1 he
  have h2' := ownsRow_ext h2 he
  obtain ⟨a1, a2⟩ := h1'.stored j (.int .i64 (f x y))
  rw [← List.map_set, mix2_set f X Y j x y hl hx hy] at a1
  refine ⟨a1, h2'.kept a2 (.inr (by simp [Value.ownBlock]; omega)), ?_, ?_, ?_⟩
  · exact (Below.trans h3 (Below.mono he (Nat.le_trans (Nat.le_of_lt (Nat.lt_of_le_of_lt hg h4)) (Nat.le_refl _)))).setCell hg _
  · simp [World.setCell]; exact Nat.lt_of_lt_of_le h4 he.size
  · simp [World.setCell]; exact Nat.lt_of_lt_of_le h5 he.size

theorem BwInv.skip {B g cap g2 cap2 m : Nat} {f : Int → Int → Int} {X Y : List Int} {w wr : World} {j : Nat} {x y : Int} (h : BwInv B g cap g2 cap2 m f X Y w wr j) (hl : X.length = Y.length) (hx : X[j]? = some x) (hy : Y[j]? = some y) (hf : f x y = x) :
    BwInv B g cap g2 cap2 m f X Y w wr (j + 1) := by
  obtain ⟨h1, h2⟩ := h
  refine ⟨?_, h2⟩
  rw [← mix2_set f X Y j x y hl hx hy, hf]
  have := mix2_at f X Y j x hl hx
  obtain ⟨hj, he⟩ := List.getElem?_eq_some_iff.1 this
  rw [← he, List.set_getElem_self]
  exact h1

set_option maxHeartbeats 2000000 in
theorem refBitwise_and (k a b : Int) (hpos : 0 < wid k) (w : World) :
    Calls Try.prog 91 #[.int .i64 8, .int .i64 k, .int .i64 a, .int .i64 b] w fun e w' => e = .returned (.int .i64 (wkr k (fromS (List.zipWith (bitOp 8) (bitsL (wid k) a) (bitsL (wid k) b)) (wid k)))) ∧ Ext w w' := by
  have hm64 := wid_le k
  obtain ⟨X, hX⟩ : ∃ X, X = bitsL (wid k) a := ⟨_, rfl⟩
  obtain ⟨Y, hY⟩ : ∃ Y, Y = bitsL (wid k) b := ⟨_, rfl⟩
  have hbX : ∀ (j : Nat) (x : Int), X[j]? = some x → 0 ≤ x ∧ x ≤ 1 := fun j x h => bitsL_bit (wid k) a j x (hX ▸ h)
  have hbY : ∀ (j : Nat) (x : Int), Y[j]? = some x → 0 ≤ x ∧ x ≤ 1 := fun j x h => bitsL_bit (wid k) b j x (hY ▸ h)
  have hlX : X.length = wid k := by rw [hX]; exact bitsL_length _ _
  have hlY : Y.length = wid k := by rw [hY]; exact bitsL_length _ _
  have hA := fun (w : World) => refBits_any k a w
  have hB := fun (w : World) => refBits_any k b w
  rw [← hX] at hA ⊢
  rw [← hY] at hB ⊢
  clear hX hY
  obtain ⟨m, hm⟩ : ∃ m, m = wid k := ⟨_, rfl⟩
  rw [← hm] at hpos hm64 hlX hlY hA hB ⊢
  have HM := Lib.hid hm
  have HX := Lib.hid hlX
  have HY := Lib.hid hlY
  have HA := Lib.hid hA
  have HBB := Lib.hid hB
  have HbX := Lib.hid hbX
  have HbY := Lib.hid hbY
  clear hm hlX hlY hA hB hbX hbY
  go_enter Try.func91, Try.ntmps91
  go_wp2_with fail
  refine (HA.out _).mono ?_
  rintro e w1 ⟨v1, rfl, hown1, hx1⟩
  obtain ⟨g, cap, rfl, hg, hcap, hgs⟩ := ownsRow_some hown1 hpos
  go_wp2_with fail
  refine (HBB.out _).mono ?_
  rintro e w2 ⟨v2, rfl, hown2, hx2⟩
  obtain ⟨g2, cap2, rfl, hg2, hcap2, hgs2⟩ := ownsRow_some hown2 hpos
  have hinv0 : BwInv w.heap.size g cap g2 cap2 m (bitOp 8) X Y w w2 0 := ⟨by rw [mix2_zero]; exact ownsRow_ext hown1 hx2, ownsRow_base hown2 hx1.size, hx1.trans hx2, Nat.lt_of_lt_of_le hgs hx2.size, hgs2⟩
  have hne : g ≠ g2 := by omega
  clear hown1 hown2 hx1 hx2 hgs hgs2 hg2
  go_wp2_with fail
  go_loopw [11] (fun i wr => ∃ j : Nat, j ≤ m ∧ i = .int .i64 j ∧ BwInv w.heap.size g cap g2 cap2 m (bitOp 8) X Y w wr j) (fun i _ => m - (intOf i).toNat)
  case atStart => exact ⟨0, Nat.zero_le _, rfl, hinv0⟩
  case round =>
    clear hinv0
    obtain ⟨j, hj, rfl, hinv⟩ := hrel
    by_cases hlt : j < m
    · obtain ⟨x, hx⟩ : ∃ x, X[j]? = some x := ⟨_, List.getElem?_eq_getElem (by have := HX.out; omega)⟩
      obtain ⟨y, hy⟩ : ∃ y, Y[j]? = some y := ⟨_, List.getElem?_eq_getElem (by have := HY.out; omega)⟩
      have hbx := HbX.out j x hx
      have hby := HbY.out j y hy
      have hl : X.length = Y.length := HX.out.trans HY.out.symm
      obtain ⟨c1, c2, c3⟩ := hinv.read hlt hl hx hy
      have hgw : g < wr.heap.size := hinv.2.2.2.1
      have h1 := fun w' he => hinv.write hg hne hl hx hy w' he
      obtain ⟨x0, x1⟩ := hbx
      obtain ⟨y0, y1⟩ := hby
      clear hinv hx hy hl
      have hxy : x * y = 0 ∨ x * y = 1 := by
        rcases (show x = 0 ∨ x = 1 by omega) with rfl | rfl <;> simp <;> omega
      have p0 : 0 ≤ x * y := by omega
      have p1 : x * y ≤ 1 := by omega
      clear hxy
      have H1 := Lib.hid h1
      clear h1
      have h1 := fun w' he => H1.out w' he
      go_wp2_with fail
      (refine region_drew_tail 12 (by kernel_rfl) (by kernel_rfl) ?_; simp only [List.take_succ_cons, List.take_zero, List.drop_succ_cons, List.drop_zero]; (repeat (go_big_quiet_step (fail))); refine wpQuiet_nil ?_; rintro _ ⟨nq, rfl⟩)
      go_wp2
      go_roundw
      case rel => exact ⟨j + 1, by omega, by go_num, by have h2 := h1 _ ((Ext.refl _).drewN nq); exact h2⟩
      case measure => simp [intOf]; omega
    · obtain rfl : j = m := by omega
      obtain ⟨hown, _, hbel, _⟩ := hinv
      rw [mix2_all _ _ _ _ (by rw [HX.out]; omega) (by rw [HY.out]; omega)] at hown
      have hs := SlC.of_owns hown
      have hlen : (List.zipWith (bitOp 8) X Y).length = j := by simp [HX.out, HY.out]
      have HF := Lib.hid (refFrom_any k (List.zipWith (bitOp 8) X Y) (.slice (some ⟨g, 0, none⟩) j cap) wr (by rw [hlen]; exact hs) (by rw [hlen]; omega))
      rw [hlen, ← HM.out, Nat.min_self] at HF
      clear hs hown hlen
      go_wp2_with (first | (go_at_call 90; refine HF.out.mono ?_; rintro e w' ⟨rfl, rfl⟩))
      go_ret
      exact ⟨rfl, hbel⟩

set_option maxHeartbeats 2000000 in
theorem refBitwise_or (k a b : Int) (hpos : 0 < wid k) (w : World) :
    Calls Try.prog 91 #[.int .i64 9, .int .i64 k, .int .i64 a, .int .i64 b] w fun e w' => e = .returned (.int .i64 (wkr k (fromS (List.zipWith (bitOp 9) (bitsL (wid k) a) (bitsL (wid k) b)) (wid k)))) ∧ Ext w w' := by
  have hm64 := wid_le k
  obtain ⟨X, hX⟩ : ∃ X, X = bitsL (wid k) a := ⟨_, rfl⟩
  obtain ⟨Y, hY⟩ : ∃ Y, Y = bitsL (wid k) b := ⟨_, rfl⟩
  have hbX : ∀ (j : Nat) (x : Int), X[j]? = some x → 0 ≤ x ∧ x ≤ 1 := fun j x h => bitsL_bit (wid k) a j x (hX ▸ h)
  have hbY : ∀ (j : Nat) (x : Int), Y[j]? = some x → 0 ≤ x ∧ x ≤ 1 := fun j x h => bitsL_bit (wid k) b j x (hY ▸ h)
  have hlX : X.length = wid k := by rw [hX]; exact bitsL_length _ _
  have hlY : Y.length = wid k := by rw [hY]; exact bitsL_length _ _
  have hA := fun (w : World) => refBits_any k a w
  have hB := fun (w : World) => refBits_any k b w
  rw [← hX] at hA ⊢
  rw [← hY] at hB ⊢
  clear hX hY
  obtain ⟨m, hm⟩ : ∃ m, m = wid k := ⟨_, rfl⟩
  rw [← hm] at hpos hm64 hlX hlY hA hB ⊢
  have HM := Lib.hid hm
  have HX := Lib.hid hlX
  have HY := Lib.hid hlY
  have HA := Lib.hid hA
  have HBB := Lib.hid hB
  have HbX := Lib.hid hbX
  have HbY := Lib.hid hbY
  clear hm hlX hlY hA hB hbX hbY
  go_enter Try.func91, Try.ntmps91
  go_wp2_with fail
  refine (HA.out _).mono ?_
  rintro e w1 ⟨v1, rfl, hown1, hx1⟩
  obtain ⟨g, cap, rfl, hg, hcap, hgs⟩ := ownsRow_some hown1 hpos
  go_wp2_with fail
  refine (HBB.out _).mono ?_
  rintro e w2 ⟨v2, rfl, hown2, hx2⟩
  obtain ⟨g2, cap2, rfl, hg2, hcap2, hgs2⟩ := ownsRow_some hown2 hpos
  have hinv0 : BwInv w.heap.size g cap g2 cap2 m (bitOp 9) X Y w w2 0 := ⟨by rw [mix2_zero]; exact ownsRow_ext hown1 hx2, ownsRow_base hown2 hx1.size, hx1.trans hx2, Nat.lt_of_lt_of_le hgs hx2.size, hgs2⟩
  have hne : g ≠ g2 := by omega
  clear hown1 hown2 hx1 hx2 hgs hgs2 hg2
  go_wp2_with fail
  go_loopw [11] (fun i wr => ∃ j : Nat, j ≤ m ∧ i = .int .i64 j ∧ BwInv w.heap.size g cap g2 cap2 m (bitOp 9) X Y w wr j) (fun i _ => m - (intOf i).toNat)
  case atStart => exact ⟨0, Nat.zero_le _, rfl, hinv0⟩
  case round =>
    clear hinv0
    obtain ⟨j, hj, rfl, hinv⟩ := hrel
    by_cases hlt : j < m
    · obtain ⟨x, hx⟩ : ∃ x, X[j]? = some x := ⟨_, List.getElem?_eq_getElem (by have := HX.out; omega)⟩
      obtain ⟨y, hy⟩ : ∃ y, Y[j]? = some y := ⟨_, List.getElem?_eq_getElem (by have := HY.out; omega)⟩
      have hbx := HbX.out j x hx
      have hby := HbY.out j y hy
      have hl : X.length = Y.length := HX.out.trans HY.out.symm
      obtain ⟨c1, c2, c3⟩ := hinv.read hlt hl hx hy
      have hgw : g < wr.heap.size := hinv.2.2.2.1
      have h1 := fun (e : y = 1) (w' : World) (he : Ext wr w') => (show BwInv w.heap.size g cap g2 cap2 m (bitOp 9) X Y w (w'.setCell ⟨g, j, none⟩ (.int .i64 1)) (j + 1) from by have := hinv.write hg hne hl hx hy w' he; simpa [bitOp, e] using this)
      have h2 := fun (e : ¬ y = 1) => hinv.skip hl hx hy (by simp [bitOp, e])
      have H1 := Lib.hid h1
      have H2 := Lib.hid h2
      clear h1 h2
      obtain ⟨x0, x1⟩ := hbx
      obtain ⟨y0, y1⟩ := hby
      clear hinv hx hy hl

      by_cases hy1 : y = 1
      · subst hy1
        go_wp2_with fail
        go_roundw
        case rel => exact ⟨j + 1, by omega, by go_num, H1.out rfl _ (Ext.refl _)⟩
        case measure => simp [intOf]; omega
      · have hyb : (y == 1) = false := by simpa using hy1
        go_wp2_with fail
        go_roundw
        case rel => exact ⟨j + 1, by omega, by go_num, H2.out hy1⟩
        case measure => simp [intOf]; omega
    · obtain rfl : j = m := by omega
      obtain ⟨hown, _, hbel, _⟩ := hinv
      rw [mix2_all _ _ _ _ (by rw [HX.out]; omega) (by rw [HY.out]; omega)] at hown
      have hs := SlC.of_owns hown
      have hlen : (List.zipWith (bitOp 9) X Y).length = j := by simp [HX.out, HY.out]
      have HF := Lib.hid (refFrom_any k (List.zipWith (bitOp 9) X Y) (.slice (some ⟨g, 0, none⟩) j cap) wr (by rw [hlen]; exact hs) (by rw [hlen]; omega))
      rw [hlen, ← HM.out, Nat.min_self] at HF
      clear hs hown hlen
      go_wp2_with (first | (go_at_call 90; refine HF.out.mono ?_; rintro e w' ⟨rfl, rfl⟩))
      go_ret
      exact ⟨rfl, hbel⟩

set_option maxHeartbeats 2000000 in
theorem refBitwise_xor (k a b : Int) (hpos : 0 < wid k) (w : World) :
    Calls Try.prog 91 #[.int .i64 10, .int .i64 k, .int .i64 a, .int .i64 b] w fun e w' => e = .returned (.int .i64 (wkr k (fromS (List.zipWith (bitOp 10) (bitsL (wid k) a) (bitsL (wid k) b)) (wid k)))) ∧ Ext w w' := by
  have hm64 := wid_le k
  obtain ⟨X, hX⟩ : ∃ X, X = bitsL (wid k) a := ⟨_, rfl⟩
  obtain ⟨Y, hY⟩ : ∃ Y, Y = bitsL (wid k) b := ⟨_, rfl⟩
  have hbX : ∀ (j : Nat) (x : Int), X[j]? = some x → 0 ≤ x ∧ x ≤ 1 := fun j x h => bitsL_bit (wid k) a j x (hX ▸ h)
  have hbY : ∀ (j : Nat) (x : Int), Y[j]? = some x → 0 ≤ x ∧ x ≤ 1 := fun j x h => bitsL_bit (wid k) b j x (hY ▸ h)
  have hlX : X.length = wid k := by rw [hX]; exact bitsL_length _ _
  have hlY : Y.length = wid k := by rw [hY]; exact bitsL_length _ _
  have hA := fun (w : World) => refBits_any k a w
  have hB := fun (w : World) => refBits_any k b w
  rw [← hX] at hA ⊢
  rw [← hY] at hB ⊢
  clear hX hY
  obtain ⟨m, hm⟩ : ∃ m, m = wid k := ⟨_, rfl⟩
  rw [← hm] at hpos hm64 hlX hlY hA hB ⊢
  have HM := Lib.hid hm
  have HX := Lib.hid hlX
  have HY := Lib.hid hlY
  have HA := Lib.hid hA
  have HBB := Lib.hid hB
  have HbX := Lib.hid hbX
  have HbY := Lib.hid hbY
  clear hm hlX hlY hA hB hbX hbY
  go_enter Try.func91, Try.ntmps91
  go_wp2_with fail
  refine (HA.out _).mono ?_
  rintro e w1 ⟨v1, rfl, hown1, hx1⟩
  obtain ⟨g, cap, rfl, hg, hcap, hgs⟩ := ownsRow_some hown1 hpos
  go_wp2_with fail
  refine (HBB.out _).mono ?_
  rintro e w2 ⟨v2, rfl, hown2, hx2⟩
  obtain ⟨g2, cap2, rfl, hg2, hcap2, hgs2⟩ := ownsRow_some hown2 hpos
  have hinv0 : BwInv w.heap.size g cap g2 cap2 m (bitOp 10) X Y w w2 0 := ⟨by rw [mix2_zero]; exact ownsRow_ext hown1 hx2, ownsRow_base hown2 hx1.size, hx1.trans hx2, Nat.lt_of_lt_of_le hgs hx2.size, hgs2⟩
  have hne : g ≠ g2 := by omega
  clear hown1 hown2 hx1 hx2 hgs hgs2 hg2
  go_wp2_with fail
  go_loopw [11] (fun i wr => ∃ j : Nat, j ≤ m ∧ i = .int .i64 j ∧ BwInv w.heap.size g cap g2 cap2 m (bitOp 10) X Y w wr j) (fun i _ => m - (intOf i).toNat)
  case atStart => exact ⟨0, Nat.zero_le _, rfl, hinv0⟩
  case round =>
    clear hinv0
    obtain ⟨j, hj, rfl, hinv⟩ := hrel
    by_cases hlt : j < m
    · obtain ⟨x, hx⟩ : ∃ x, X[j]? = some x := ⟨_, List.getElem?_eq_getElem (by have := HX.out; omega)⟩
      obtain ⟨y, hy⟩ : ∃ y, Y[j]? = some y := ⟨_, List.getElem?_eq_getElem (by have := HY.out; omega)⟩
      have hbx := HbX.out j x hx
      have hby := HbY.out j y hy
      have hl : X.length = Y.length := HX.out.trans HY.out.symm
      obtain ⟨c1, c2, c3⟩ := hinv.read hlt hl hx hy
      have hgw : g < wr.heap.size := hinv.2.2.2.1
      have h1 := fun w' he => hinv.write hg hne hl hx hy w' he
      obtain ⟨x0, x1⟩ := hbx
      obtain ⟨y0, y1⟩ := hby
      clear hinv hx hy hl

      go_wp2_with fail
      (refine region_drew_tail 13 (by kernel_rfl) (by kernel_rfl) ?_; simp only [List.take_succ_cons, List.take_zero, List.drop_succ_cons, List.drop_zero]; (repeat (go_big_quiet_step (fail))); refine wpQuiet_nil ?_; rintro _ ⟨nq, rfl⟩)
      go_wp2
      go_roundw
      case rel => exact ⟨j + 1, by omega, by go_num, by have h2 := h1 _ ((Ext.refl _).drewN nq); exact h2⟩
      case measure => simp [intOf]; omega
    · obtain rfl : j = m := by omega
      obtain ⟨hown, _, hbel, _⟩ := hinv
      rw [mix2_all _ _ _ _ (by rw [HX.out]; omega) (by rw [HY.out]; omega)] at hown
      have hs := SlC.of_owns hown
      have hlen : (List.zipWith (bitOp 10) X Y).length = j := by simp [HX.out, HY.out]
      have HF := Lib.hid (refFrom_any k (List.zipWith (bitOp 10) X Y) (.slice (some ⟨g, 0, none⟩) j cap) wr (by rw [hlen]; exact hs) (by rw [hlen]; omega))
      rw [hlen, ← HM.out, Nat.min_self] at HF
      clear hs hown hlen
      go_wp2_with (first | (go_at_call 90; refine HF.out.mono ?_; rintro e w' ⟨rfl, rfl⟩))
      go_ret
      exact ⟨rfl, hbel⟩
end Go.Proofs.Ytipfcfaigbeakaa

namespace Go.Proofs.Ytipfcfaigbeakaa
open Go.RowKit
set_option maxRecDepth 100000

theorem div_q63 (q : Int) : wrap64 (q + 2 ^ 63) = wrap64 (q + -9223372036854775808) := by
  apply wrap64_congr
  have : (2 : Int) ^ 63 = 9223372036854775808 := by decide
  rw [this]; omega

set_option maxHeartbeats 2000000 in
theorem refDivide_any (a b : Int) (hb : I64 b) (hb0 : b ≠ 0) (w : World) :
    Calls Try.prog 93 #[.int .i64 a, .int .i64 b] w fun e w' => e = .returned (.tuple #[.int .i64 (wrap64 (a % 18446744073709551616 / (b % 18446744073709551616))), .int .i64 (wrap64 (a % 18446744073709551616 % (b % 18446744073709551616)))]) ∧ w = w' := by
  have hbz : b % 18446744073709551616 ≠ 0 := by unfold I64 at hb; omega
  have HS := Lib.hid (div_start a b hbz)
  clear hbz
  go_enter Try.func93, Try.ntmps93
  go_wp2_with fail
  go_loop [6, 7, 8] (fun q r i => ∃ (j : Nat) (q0 r0 : Int), j ≤ 64 ∧ i = .int .i64 ((j : Int) - 1) ∧ q = .int .i64 q0 ∧ r = .int .i64 r0 ∧ DivInv a b j q0 r0) (fun _ _ i => (intOf i + 1).toNat)
  case atStart => exact ⟨64, 0, 0, by omega, rfl, rfl, rfl, HS.out⟩
  case round =>
    obtain ⟨j, q0, r0, hj, rfl, rfl, rfl, hinv⟩ := hrel
    have HI := Lib.hid hinv
    clear hinv
    by_cases hlt : 0 < j
    · obtain ⟨i, rfl⟩ : ∃ i, j = i + 1 := ⟨j - 1, by omega⟩
      have e : ((i + 1 : Nat) : Int) - 1 = (i : Int) := by omega
      rw [e]
      clear e hlt
      have hi64 : i < 64 := by omega
      have hr : I64 (wrap64 (wrap64 (2 * r0) + a / 2 ^ i % 2)) := wrap64_I64 _
      by_cases hc : r0 < 0
      · have HY := Lib.hid (div_yes hi64 HI.out (Or.inl hc))
        by_cases h63 : i = 63
        · rw [show wrap64 (q0 + 2 ^ i) = wrap64 (q0 + -9223372036854775808) from by rw [h63]; exact div_q63 q0] at HY
          have b63 : ((i : Int) == 63) = true := by simp [h63]
          clear h63
          go_wp2_with (first | (go_at_call 108; refine (refBit_any _ _ (by omega) (by omega) _).mono ?_; rintro e w' ⟨rfl, rfl⟩) | (go_at_call 95; refine (refBelow_any _ _ _ (by assumption) hb _).mono ?_; rintro e w' ⟨rfl, rfl⟩) | (go_at_call 102; refine (refPower_any _ (by omega) _).mono ?_; rintro e w' ⟨rfl, rfl⟩))
          go_round
          case rel => exact ⟨i, _, _, by omega, rfl, rfl, rfl, HY.out⟩
          case measure => simp [intOf] <;> omega
        · have hi3 : i < 63 := by omega
          go_wp2_with (first | (go_at_call 108; refine (refBit_any _ _ (by omega) (by omega) _).mono ?_; rintro e w' ⟨rfl, rfl⟩) | (go_at_call 95; refine (refBelow_any _ _ _ (by assumption) hb _).mono ?_; rintro e w' ⟨rfl, rfl⟩) | (go_at_call 102; refine (refPower_any _ (by omega) _).mono ?_; rintro e w' ⟨rfl, rfl⟩))
          go_round
          case rel => exact ⟨i, _, _, by omega, rfl, rfl, rfl, HY.out⟩
          case measure => simp [intOf] <;> omega
      · have hc' : 0 ≤ r0 := Int.not_lt.1 hc
        cases hbl : blw 9 (wrap64 (wrap64 (2 * r0) + a / 2 ^ i % 2)) b
        · have HY := Lib.hid (div_yes hi64 HI.out (Or.inr (by rw [hbl]; rfl)))
          by_cases h63 : i = 63
          · rw [show wrap64 (q0 + 2 ^ i) = wrap64 (q0 + -9223372036854775808) from by rw [h63]; exact div_q63 q0] at HY
            have b63 : ((i : Int) == 63) = true := by simp [h63]
            clear h63
            go_wp2_with (first | (go_at_call 108; refine (refBit_any _ _ (by omega) (by omega) _).mono ?_; rintro e w' ⟨rfl, rfl⟩) | (go_at_call 95; refine (refBelow_any _ _ _ (by assumption) hb _).mono ?_; rintro e w' ⟨rfl, rfl⟩) | (go_at_call 102; refine (refPower_any _ (by omega) _).mono ?_; rintro e w' ⟨rfl, rfl⟩))
            go_round
            case rel => exact ⟨i, _, _, by omega, rfl, rfl, rfl, HY.out⟩
            case measure => simp [intOf] <;> omega
          · have hi3 : i < 63 := by omega
            go_wp2_with (first | (go_at_call 108; refine (refBit_any _ _ (by omega) (by omega) _).mono ?_; rintro e w' ⟨rfl, rfl⟩) | (go_at_call 95; refine (refBelow_any _ _ _ (by assumption) hb _).mono ?_; rintro e w' ⟨rfl, rfl⟩) | (go_at_call 102; refine (refPower_any _ (by omega) _).mono ?_; rintro e w' ⟨rfl, rfl⟩))
            go_round
            case rel => exact ⟨i, _, _, by omega, rfl, rfl, rfl, HY.out⟩
            case measure => simp [intOf] <;> omega
        · have HY := Lib.hid (div_no hi64 HI.out hc' hbl)
          go_wp2_with (first | (go_at_call 108; refine (refBit_any _ _ (by omega) (by omega) _).mono ?_; rintro e w' ⟨rfl, rfl⟩) | (go_at_call 95; refine (refBelow_any _ _ _ (by assumption) hb _).mono ?_; rintro e w' ⟨rfl, rfl⟩) | (go_at_call 102; refine (refPower_any _ (by omega) _).mono ?_; rintro e w' ⟨rfl, rfl⟩))
          go_round
          case rel => exact ⟨i, _, _, by omega, rfl, rfl, rfl, HY.out⟩
          case measure => simp [intOf] <;> omega
    · obtain rfl : j = 0 := by omega
      have HE := Lib.hid (div_end HI.out)
      have e : ((0 : Nat) : Int) - 1 = -1 := by omega
      rw [e]
      go_wp2
      go_ret2
      exact ⟨by rw [← HE.out.1, ← HE.out.2]; rfl, rfl⟩
end Go.Proofs.Ytipfcfaigbeakaa

namespace Go.Proofs.Ytipfcfaigbeakaa
open Go.RowKit
set_option maxRecDepth 100000

theorem wkr_I64 {k n : Int} (h : I64 n) : I64 (wkr k n) := by
  unfold I64 at *
  rcases kinds k with rfl | rfl | rfl | rfl | rfl | rfl | rfl | rfl | rfl | hk
  · rw [wkr_1]; omega
  · rw [wkr_2]; omega
  · rw [wkr_3]; omega
  · rw [wkr_4]; omega
  · rw [wkr_5]; omega
  · rw [wkr_6]; omega
  · rw [wkr_7]; omega
  · rw [wkr_8]; omega
  · rw [wkr_9]; omega
  · rw [wkr_none _ hk]; omega
theorem wkr_wkr (k n : Int) : wkr k (wkr k n) = wkr k n := by
  rcases kinds k with rfl | rfl | rfl | rfl | rfl | rfl | rfl | rfl | rfl | hk
  · rw [wkr_1, wkr_1]; omega
  · rw [wkr_2, wkr_2]; omega
  · rw [wkr_3, wkr_3]; omega
  · rw [wkr_4, wkr_4]; omega
  · rw [wkr_5, wkr_5]
  · rw [wkr_6, wkr_6]; omega
  · rw [wkr_7, wkr_7]; omega
  · rw [wkr_8, wkr_8]; omega
  · rw [wkr_9, wkr_9]
  · rw [wkr_none _ hk, wkr_none _ hk]
theorem isk_iff {k n : Int} : isk k n = true ↔ 0 < wid k ∧ wkr k n = n := by
  have := width_wid k
  simp only [isk, Bool.and_eq_true, decide_eq_true_eq, beq_iff_eq]
  omega
theorem isk_wkr {k : Int} (n : Int) (h : 0 < wid k) : isk k (wkr k n) = true := isk_iff.2 ⟨h, wkr_wkr k n⟩
theorem isk_none {k : Int} (n : Int) (h : ¬ 0 < wid k) : isk k n = false := by
  cases e : isk k n
  · rfl
  · exact absurd (isk_iff.1 e).1 h
theorem wid_1 : wid 1 = 1 := by decide
theorem wid_2 : wid 2 = 8 := by decide
theorem wid_3 : wid 3 = 16 := by decide
theorem wid_4 : wid 4 = 32 := by decide
theorem wid_5 : wid 5 = 64 := by decide
theorem wid_6 : wid 6 = 8 := by decide
theorem wid_7 : wid 7 = 16 := by decide
theorem wid_8 : wid 8 = 32 := by decide
theorem wid_9 : wid 9 = 64 := by decide
theorem pow_1 : (2 : Int) ^ 1 = 2 := by decide
theorem pow_8 : (2 : Int) ^ 8 = 256 := by decide
theorem pow_16 : (2 : Int) ^ 16 = 65536 := by decide
theorem pow_32 : (2 : Int) ^ 32 = 4294967296 := by decide
theorem pow_64 : (2 : Int) ^ 64 = 18446744073709551616 := by decide
theorem wkr_mod {k : Int} (n : Int) (h : 0 < wid k) : wkr k n % 2 ^ wid k = n % 2 ^ wid k := by
  rcases kinds k with rfl | rfl | rfl | rfl | rfl | rfl | rfl | rfl | rfl | hk
  · rw [wid_1, pow_1, wkr_1]; omega
  · rw [wid_2, pow_8, wkr_2]; omega
  · rw [wid_3, pow_16, wkr_3]; omega
  · rw [wid_4, pow_32, wkr_4]; omega
  · rw [wkr_5]
  · rw [wid_6, pow_8, wkr_6]; omega
  · rw [wid_7, pow_16, wkr_7]; omega
  · rw [wid_8, pow_32, wkr_8]; omega
  · rw [wkr_9]
  · have := width_wid k; omega
theorem isk_ext {k x y : Int} (hx : isk k x = true) (hy : isk k y = true) (ix : I64 x) (iy : I64 y) (h : x % 2 ^ wid k = y % 2 ^ wid k) : x = y := by
  rw [← (isk_iff.1 hx).2, ← (isk_iff.1 hy).2]
  exact wkr_congr ix iy h
theorem wrap64_modw (n : Int) (m : Nat) (h : m ≤ 64) : wrap64 n % 2 ^ m = n % 2 ^ m := by
  obtain ⟨d, hd⟩ := Nat.le.dest h
  have e : (2 : Int) ^ 64 = 2 ^ m * 2 ^ d := by rw [← Int.pow_add, hd]
  have h1 := wrap64_mod n
  rw [← pow_64, e] at h1
  rw [← Int.emod_emod_of_dvd (wrap64 n) (⟨2 ^ d, rfl⟩ : (2 : Int) ^ m ∣ 2 ^ m * 2 ^ d), h1, Int.emod_emod_of_dvd _ ⟨2 ^ d, rfl⟩]
theorem add_congr {a b c d M : Int} (h1 : a % M = b % M) (h2 : c % M = d % M) : (a + c) % M = (b + d) % M := by rw [Int.add_emod, h1, h2, ← Int.add_emod]
theorem sub_congr {a b c d M : Int} (h1 : a % M = b % M) (h2 : c % M = d % M) : (a - c) % M = (b - d) % M := by rw [Int.sub_emod, h1, h2, ← Int.sub_emod]
theorem mul_congr {a b c d M : Int} (h1 : a % M = b % M) (h2 : c % M = d % M) : (a * c) % M = (b * d) % M := by rw [Int.mul_emod, h1, h2, ← Int.mul_emod]
theorem bits_ext {m : Nat} {x y : Int} (h : ∀ i, i < m → bitI x i = bitI y i) : x % 2 ^ m = y % 2 ^ m := by
  induction m with
  | zero => simp [Int.emod_one]
  | succ m ih => rw [mod_succ, mod_succ, ih (fun i hi => h i (by omega)), h m (by omega)]
theorem bitI_congr {m i : Nat} {x y : Int} (hi : i < m) (h : x % 2 ^ m = y % 2 ^ m) : bitI x i = bitI y i := by rw [← bitI_mod x m i hi, ← bitI_mod y m i hi, h]

/-- A kind of numbers. -/
def Num (k : Int) : Prop := 2 ≤ k ∧ k ≤ 9
theorem Num.wid {k : Int} (h : Num k) : 0 < wid k := by
  unfold Num at h
  rcases (show k = 2 ∨ k = 3 ∨ k = 4 ∨ k = 5 ∨ k = 6 ∨ k = 7 ∨ k = 8 ∨ k = 9 by omega) with rfl | rfl | rfl | rfl | rfl | rfl | rfl | rfl <;> decide
theorem Num.ne {k : Int} (h : Num k) : (k == 1) = false := by unfold Num at h; simp; omega
theorem fits_k {k : Int} (hk : (k == 1) = false) (n : Int) : fitsv n k = (bits .and .i64 n 2 != 0) := by
  have : k ≠ 1 := by simpa using hk
  simp [fitsv, this]
theorem fits_b (n : Int) : fitsv n 1 = (bits .and .i64 n 1 != 0) := by simp [fitsv]
theorem f21 : (bits .and .i64 2 1 != 0) = false := by decide +kernel
theorem f31 : (bits .and .i64 3 1 != 0) = true := by decide +kernel
theorem f11 : (bits .and .i64 1 1 != 0) = true := by decide +kernel
theorem f22 : (bits .and .i64 2 2 != 0) = true := by decide +kernel
theorem f32 : (bits .and .i64 3 2 != 0) = true := by decide +kernel
theorem f12 : (bits .and .i64 1 2 != 0) = false := by decide +kernel
theorem f01 : (bits .and .i64 0 1 != 0) = false := by decide +kernel
theorem f02 : (bits .and .i64 0 2 != 0) = false := by decide +kernel
theorem binv_no {op k a b : Int} (h : binOk op k a b = false) : binv op k a b = (0, 0, false) := by simp [binv, h]
theorem binv_yes {op k a b : Int} (h : binOk op k a b = true) : binv op k a b = ((binr op.toNat k a b).1, (binr op.toNat k a b).2, true) := by simp [binv, h]
theorem Num.ok {k a b : Int} (h : Num k) (n : Nat) (hn : opOf n = 2 ∨ opOf n = 3) (ha : isk k a = true) (hb : isk k b = true) : binOk (n : Int) k a b = true := by
  rcases hn with hn | hn <;> simp [binOk, ha, hb, fits_k h.ne, hn, f22, f32]

def dov (op k a b : Int) : Int := (binv op k (wkr k a) (wkr k b)).1
theorem dov_eq {k : Int} (h : Num k) (n : Nat) (hn : opOf n = 2 ∨ opOf n = 3) (a b : Int) : dov n k a b = (binr n k (wkr k a) (wkr k b)).1 := by
  unfold dov
  rw [binv_yes (h.ok n hn (isk_wkr _ h.wid) (isk_wkr _ h.wid))]; rfl
theorem divv_I64 {k a b : Int} (_ha : I64 a) (_hb : I64 b) : I64 (divv k a b) := by
  unfold divv; split
  · unfold I64; omega
  · split
    · exact wrap64_I64 _
    · split <;> exact wrap64_I64 _
theorem tmod_I64 {a b : Int} (ha : I64 a) : I64 (a.tmod b) := by
  have h := @Int.natAbs_tmod a b
  have h2 := Nat.mod_le a.natAbs b.natAbs
  have h3 := @Int.tmod_eq_emod a b
  have h4 : a < 0 → a.tmod b ≤ 0 := by
    intro h0
    by_cases hd : b ∣ a
    · rw [if_pos (.inr hd)] at h3
      rw [h3, Int.emod_eq_zero_of_dvd hd]; decide
    · rw [if_neg (by rintro (h | h); · omega
                     · exact hd h)] at h3
      by_cases hb : b = 0
      · subst hb; rw [Int.tmod_zero]; omega
      · have := Int.emod_lt a hb
        omega
  unfold I64 at *
  omega
theorem modv_I64 {k a b : Int} (ha : I64 a) : I64 (modv k a b) := by
  unfold modv; split
  · unfold I64; omega
  · split
    · exact wrap64_I64 _
    · split
      · unfold I64; omega
      · exact tmod_I64 ha
theorem shlv_I64 (k a l b : Int) : I64 (shlv k a l b) := by
  unfold shlv; split
  · unfold I64; omega
  · exact wrap64_I64 _
theorem ediv_I64 {a : Int} (ha : I64 a) (s : Nat) : I64 (a / 2 ^ s) := by
  have hp := pow_pos' s
  unfold I64 at ha ⊢
  by_cases h : 0 ≤ a
  · have h1 := Int.ediv_nonneg h (show 0 ≤ (2 : Int) ^ s by omega)
    have h2 := Int.ediv_le_self (2 ^ s) h
    omega
  · have h3 := Int.mul_ediv_add_emod a (2 ^ s)
    have h4 := Int.emod_nonneg a (show (2 : Int) ^ s ≠ 0 by omega)
    have h5 := Int.emod_lt_of_pos a hp
    have h6 : a / 2 ^ s < 0 := Int.ediv_neg_of_neg_of_pos (by omega) hp
    have h7 : 2 ^ s * (a / 2 ^ s + 1) ≤ 1 * (a / 2 ^ s + 1) := Int.mul_le_mul_of_nonpos_right (show (1 : Int) ≤ 2 ^ s by omega) (show a / 2 ^ s + 1 ≤ 0 by omega)
    rw [Int.mul_add] at h7
    omega
theorem shrv_I64 {k a l b : Int} (ha : I64 a) : I64 (shrv k a l b) := by
  unfold shrv; split
  · exact ediv_I64 ha _
  · exact wrap64_I64 _
theorem tru_I64 (b : Bool) : I64 (tru b) := by cases b <;> (unfold I64; decide)
theorem isk_tru (b : Bool) : isk 1 (tru b) = true := by cases b <;> decide +kernel

theorem binr_I64 (n : Nat) {k a b : Int} (ha : I64 a) (hb : I64 b) : I64 (binr n k a b).1 := by
  unfold binr
  split
  all_goals first
    | exact wkr_I64 (wrap64_I64 _)
    | exact wkr_I64 (divv_I64 ha hb)
    | exact wkr_I64 (modv_I64 ha)
    | exact wkr_I64 (bitsI64 _ _ _ (by simp))
    | exact tru_I64 _
    | exact wkr_I64 (shlv_I64 _ _ _ _)
    | exact wkr_I64 (shrv_I64 ha)
    | (unfold I64; decide)
theorem binr_snd (n : Nat) (k a b c d : Int) : (binr n k a b).2 = (binr n k c d).2 := by
  unfold binr
  split <;> rfl
theorem binr_is (n : Nat) {k : Int} (a b : Int) (h : 0 < wid k) (hn : opOf n ≠ 0) : isk (binr n k a b).2 (binr n k a b).1 = true :=
  match n, hn with
  | 0, hn => absurd rfl hn
  | 1, hn => absurd rfl hn
  | 2, hn => absurd rfl hn
  | 3, _ => isk_wkr _ h
  | 4, _ => isk_wkr _ h
  | 5, _ => isk_wkr _ h
  | 6, _ => isk_wkr _ h
  | 7, _ => isk_wkr _ h
  | 8, _ => isk_wkr _ h
  | 9, _ => isk_wkr _ h
  | 10, _ => isk_wkr _ h
  | 11, _ => isk_tru _
  | 12, _ => isk_wkr _ h
  | 13, _ => isk_wkr _ h
  | 14, _ => isk_tru _
  | 15, _ => isk_tru _
  | 16, _ => isk_tru _
  | 17, _ => isk_tru _
  | 18, _ => isk_tru _
  | 19, _ => isk_tru _
  | n + 20, hn => absurd (opOf_big (n + 20) (by omega)) hn

theorem law_closed (op k a b c d : Int) :
    (binv op k (wkr k a) (wkr k b)).2.2 = (binv op k (wkr k c) (wkr k d)).2.2 ∧ (binv op k (wkr k a) (wkr k b)).2.1 = (binv op k (wkr k c) (wkr k d)).2.1 ∧
      ((binv op k (wkr k a) (wkr k b)).2.2 = false ∨ isk (binv op k (wkr k a) (wkr k b)).2.1 (binv op k (wkr k a) (wkr k b)).1 = true) := by
  by_cases hw : 0 < wid k
  · have e : binOk op k (wkr k a) (wkr k b) = binOk op k (wkr k c) (wkr k d) := by simp [binOk, isk_wkr _ hw]
    cases h : binOk op k (wkr k a) (wkr k b)
    · rw [binv_no h, binv_no (e ▸ h)]; simp
    · rw [binv_yes h, binv_yes (e ▸ h)]
      refine ⟨rfl, binr_snd _ _ _ _ _ _, .inr (binr_is _ _ _ hw ?_)⟩
      intro h0
      simp [binOk, h0, fits0] at h
  · have e : ∀ x y, binOk op k x y = false := fun x y => by simp [binOk, isk_none _ hw]
    rw [binv_no (e _ _), binv_no (e _ _)]; simp

theorem law_back (f t a : Int) (ha : I64 a) (h1 : (castv f t (wkr f a)).2 = true) (h2 : (castv t f (castv f t (wkr f a)).1).2 = true) (h3 : ¬ width t < width f) (h4 : t ≠ 1) :
    (castv t f (castv f t (wkr f a)).1).1 = wkr f a := by
  have hwt := width_wid t
  have hwf := width_wid f
  have hf : isk f (wkr f a) = true := by
    cases h : isk f (wkr f a)
    · simp [castv, h] at h1
    · rfl
  have hf0 := (isk_iff.1 hf).1
  have ht0 : 0 < wid t := by omega
  have e1 : castv f t (wkr f a) = (wkr t (wkr f a), true) := by
    unfold castv; rw [if_neg (by rw [hf]; simp; omega), if_neg h4]
  rw [e1] at h2 ⊢
  have hI := wkr_I64 (k := f) ha
  have hmod := wkr_mod (k := t) (wkr f a) ht0
  have hmf : wkr t (wkr f a) % 2 ^ wid f = wkr f a % 2 ^ wid f := by
    obtain ⟨d, hd⟩ := Nat.le.dest (show wid f ≤ wid t by omega)
    have e : (2 : Int) ^ wid t = 2 ^ wid f * 2 ^ d := by rw [← Int.pow_add, hd]
    rw [e] at hmod
    rw [← Int.emod_emod_of_dvd (wkr t (wkr f a)) (⟨2 ^ d, rfl⟩ : (2 : Int) ^ wid f ∣ 2 ^ wid f * 2 ^ d), hmod, Int.emod_emod_of_dvd _ ⟨2 ^ d, rfl⟩]
  have ht : isk t (wkr t (wkr f a)) = true := isk_wkr _ ht0
  have e2 : castv t f (wkr t (wkr f a)) = if f = 1 then (tru (wkr t (wkr f a) != 0), true) else (wkr f (wkr t (wkr f a)), true) := by
    unfold castv; rw [if_neg (by rw [ht]; simp; omega)]
  rw [e2]
  by_cases hf1 : f = 1
  · subst hf1
    rw [if_pos rfl]
    rw [wid_1, pow_1] at hmf
    rcases isk_one hf with h | h
    · rw [h] at hmod ⊢
      have : wkr t 0 = 0 := by
        rcases kinds t with rfl | rfl | rfl | rfl | rfl | rfl | rfl | rfl | rfl | hk <;> first | decide +kernel | exact wkr_none _ hk
      rw [this]; rfl
    · rw [h] at hmf ⊢
      have : wkr t 1 ≠ 0 := by omega
      show tru (wkr t 1 != 0) = 1
      simp [this, tru]
  · rw [if_neg hf1]
    show wkr f (wkr t (wkr f a)) = wkr f a
    rw [wkr_congr (wkr_I64 hI) hI hmf, wkr_wkr]
end Go.Proofs.Ytipfcfaigbeakaa
