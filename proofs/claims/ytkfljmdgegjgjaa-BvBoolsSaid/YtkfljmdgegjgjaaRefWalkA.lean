/-
  What the reference's functions of chapter 1 do that make no memory.
  No condition but that places of bits lie below 64.
-/
import Derived.Test.YtkfljmdgegjgjaaRows
import Derived.Test.YtkfljmdgegjgjaaKit
import Derived.Test.YtkfljmdgegjgjaaBvPlain
namespace Go.Proofs.Ytkfljmdgegjgjaa
open Go.RowKit

theorem refWidth_any (k : Int) (w : World) :
    Calls Try.prog 27 #[.int .i64 k] w fun e w' => e = .returned (.int .i64 (width k)) ∧ w = w' := by
  go_enter Try.func27, Try.ntmps27
  go_wp2
  all_goals go_ret
  all_goals refine ⟨?_, rfl⟩
  all_goals simp_all [width]

theorem refSigned_any (k : Int) (w : World) :
    Calls Try.prog 33 #[.int .i64 k] w fun e w' => e = .returned (.bool (sgn k)) ∧ w = w' := by
  go_enter Try.func33, Try.ntmps33
  go_wp2
  all_goals go_ret
  all_goals refine ⟨?_, rfl⟩
  · simp_all [sgn]
  · have h : k < 2 := by assumption
    simp [sgn, Int.not_le.2 h]

theorem refTruth_any (b : Bool) (w : World) :
    Calls Try.prog 39 #[.bool b] w fun e w' => e = .returned (.int .i64 (tru b)) ∧ w = w' := by
  cases b
  all_goals
    go_enter Try.func39, Try.ntmps39
    go_wp2
    go_ret
    exact ⟨rfl, rfl⟩

theorem refBit_any (n i : Int) (h0 : 0 ≤ i) (h1 : i < 64) (w : World) :
    Calls Try.prog 63 #[.int .i64 n, .int .i64 i] w fun e w' => e = .returned (.int .i64 (n / 2 ^ i.toNat % 2)) ∧ w = w' := by
  go_enter Try.func63, Try.ntmps63
  go_wp2
  go_ret
  exact ⟨ret_int (bv_and_one _), rfl⟩

theorem refBelow_any (k a b : Int) (ha : I64 a) (hb : I64 b) (w : World) :
    Calls Try.prog 42 #[.int .i64 k, .int .i64 a, .int .i64 b] w fun e w' => e = .returned (.bool (blw k a b)) ∧ w = w' := by
  by_cases hk : k = 9
  · subst hk
    have HB := Lib.hid (blw_nine ha hb)
    go_enter Try.func42, Try.ntmps42
    go_wp2
    all_goals go_ret
    all_goals refine ⟨ret_bool ?_, rfl⟩
    all_goals rw [HB.out]
    all_goals simp_all
  · go_enter Try.func42, Try.ntmps42
    go_wp2
    go_ret
    exact ⟨ret_bool (by simp [blw, hk]), rfl⟩

theorem refPower_any (m : Nat) (hm : m ≤ 62) (w : World) :
    Calls Try.prog 32 #[.int .i64 m] w fun e w' => e = .returned (.int .i64 (2 ^ m)) ∧ w = w' := by
  go_enter Try.func32, Try.ntmps32
  go_wp2
  go_loop [3, 4] (fun p i => ∃ k : Nat, k ≤ m ∧ i = .int .i64 k ∧ p = .int .i64 (2 ^ k)) (fun _ i => m - (intOf i).toNat)
  case atStart => exact ⟨0, Nat.zero_le _, rfl, rfl⟩
  case round =>
    obtain ⟨k, hk, rfl, rfl⟩ := hrel
    by_cases hlt : k < m
    · obtain ⟨q, hq⟩ : ∃ q : Int, q = 2 ^ k := ⟨_, rfl⟩
      have hq0 : 0 ≤ q := by rw [hq]; exact Int.pow_nonneg (by decide)
      have hq1 : q ≤ 2305843009213693952 := by rw [hq]; exact pow_le61 k (by omega)
      rw [← hq]
      have HQ := Lib.hid hq
      clear hq
      go_wp2
      go_round
      case rel => exact ⟨k + 1, by omega, by go_num, by rw [Int.pow_succ, ← HQ.out, Int.mul_comm]⟩
      case measure => simp [intOf]; omega
    · have : k = m := by omega
      subst this
      go_wp2
      go_ret
      exact ⟨rfl, rfl⟩

theorem refWrap_1 (n : Int) (w : World) :
    Calls Try.prog 17 #[.int .i64 1, .int .i64 n] w fun e w' => e = .returned (.int .i64 (wkr 1 n)) ∧ w = w' := by
  have hw : width 1 = 1 := by decide
  have hs : sgn 1 = false := by decide
  have hp := fun (w : World) => refPower_any 1 (by decide) w
  have HB := Lib.hid (tmod_bd (n := n) (p := 2) (by decide))
  have b1 : -2 < n.tmod 2 := HB.out.1
  have b2 : n.tmod 2 < 2 := HB.out.2
  by_cases hn : n.tmod 2 < 0
  · have HE := Lib.hid (tmod_neg (n := n) (p := 2) (by decide) hn)
    go_enter Try.func17, Try.ntmps17
    go_wp2_with (first | (go_at_call 27; refine (refWidth_any _ _).mono ?_; rintro e w' ⟨rfl, rfl⟩) | (go_at_call 33; refine (refSigned_any _ _).mono ?_; rintro e w' ⟨rfl, rfl⟩) | (go_at_call 32; refine (hp _).mono ?_; rintro e w' ⟨rfl, rfl⟩))
    all_goals go_ret
    all_goals refine ⟨ret_int ?_, rfl⟩
    all_goals have he := HE.out
    all_goals rw [wkr_1]
    all_goals omega
  · have hn' : 0 ≤ n.tmod 2 := Int.not_lt.1 hn
    have HE := Lib.hid (tmod_pos (n := n) (p := 2) (by decide) hn')
    go_enter Try.func17, Try.ntmps17
    go_wp2_with (first | (go_at_call 27; refine (refWidth_any _ _).mono ?_; rintro e w' ⟨rfl, rfl⟩) | (go_at_call 33; refine (refSigned_any _ _).mono ?_; rintro e w' ⟨rfl, rfl⟩) | (go_at_call 32; refine (hp _).mono ?_; rintro e w' ⟨rfl, rfl⟩))
    all_goals go_ret
    all_goals refine ⟨ret_int ?_, rfl⟩
    all_goals have he := HE.out
    all_goals rw [wkr_1]
    all_goals omega

theorem refWrap_2 (n : Int) (w : World) :
    Calls Try.prog 17 #[.int .i64 2, .int .i64 n] w fun e w' => e = .returned (.int .i64 (wkr 2 n)) ∧ w = w' := by
  have hw : width 2 = 8 := by decide
  have hs : sgn 2 = true := by decide
  have hp := fun (w : World) => refPower_any 8 (by decide) w
  have HB := Lib.hid (tmod_bd (n := n) (p := 256) (by decide))
  have b1 : -256 < n.tmod 256 := HB.out.1
  have b2 : n.tmod 256 < 256 := HB.out.2
  by_cases hn : n.tmod 256 < 0
  · have HE := Lib.hid (tmod_neg (n := n) (p := 256) (by decide) hn)
    go_enter Try.func17, Try.ntmps17
    go_wp2_with (first | (go_at_call 27; refine (refWidth_any _ _).mono ?_; rintro e w' ⟨rfl, rfl⟩) | (go_at_call 33; refine (refSigned_any _ _).mono ?_; rintro e w' ⟨rfl, rfl⟩) | (go_at_call 32; refine (hp _).mono ?_; rintro e w' ⟨rfl, rfl⟩))
    all_goals go_ret
    all_goals refine ⟨ret_int ?_, rfl⟩
    all_goals have he := HE.out
    all_goals rw [wkr_2]
    all_goals omega
  · have hn' : 0 ≤ n.tmod 256 := Int.not_lt.1 hn
    have HE := Lib.hid (tmod_pos (n := n) (p := 256) (by decide) hn')
    go_enter Try.func17, Try.ntmps17
    go_wp2_with (first | (go_at_call 27; refine (refWidth_any _ _).mono ?_; rintro e w' ⟨rfl, rfl⟩) | (go_at_call 33; refine (refSigned_any _ _).mono ?_; rintro e w' ⟨rfl, rfl⟩) | (go_at_call 32; refine (hp _).mono ?_; rintro e w' ⟨rfl, rfl⟩))
    all_goals go_ret
    all_goals refine ⟨ret_int ?_, rfl⟩
    all_goals have he := HE.out
    all_goals rw [wkr_2]
    all_goals omega

theorem refWrap_3 (n : Int) (w : World) :
    Calls Try.prog 17 #[.int .i64 3, .int .i64 n] w fun e w' => e = .returned (.int .i64 (wkr 3 n)) ∧ w = w' := by
  have hw : width 3 = 16 := by decide
  have hs : sgn 3 = true := by decide
  have hp := fun (w : World) => refPower_any 16 (by decide) w
  have HB := Lib.hid (tmod_bd (n := n) (p := 65536) (by decide))
  have b1 : -65536 < n.tmod 65536 := HB.out.1
  have b2 : n.tmod 65536 < 65536 := HB.out.2
  by_cases hn : n.tmod 65536 < 0
  · have HE := Lib.hid (tmod_neg (n := n) (p := 65536) (by decide) hn)
    go_enter Try.func17, Try.ntmps17
    go_wp2_with (first | (go_at_call 27; refine (refWidth_any _ _).mono ?_; rintro e w' ⟨rfl, rfl⟩) | (go_at_call 33; refine (refSigned_any _ _).mono ?_; rintro e w' ⟨rfl, rfl⟩) | (go_at_call 32; refine (hp _).mono ?_; rintro e w' ⟨rfl, rfl⟩))
    all_goals go_ret
    all_goals refine ⟨ret_int ?_, rfl⟩
    all_goals have he := HE.out
    all_goals rw [wkr_3]
    all_goals omega
  · have hn' : 0 ≤ n.tmod 65536 := Int.not_lt.1 hn
    have HE := Lib.hid (tmod_pos (n := n) (p := 65536) (by decide) hn')
    go_enter Try.func17, Try.ntmps17
    go_wp2_with (first | (go_at_call 27; refine (refWidth_any _ _).mono ?_; rintro e w' ⟨rfl, rfl⟩) | (go_at_call 33; refine (refSigned_any _ _).mono ?_; rintro e w' ⟨rfl, rfl⟩) | (go_at_call 32; refine (hp _).mono ?_; rintro e w' ⟨rfl, rfl⟩))
    all_goals go_ret
    all_goals refine ⟨ret_int ?_, rfl⟩
    all_goals have he := HE.out
    all_goals rw [wkr_3]
    all_goals omega

theorem refWrap_4 (n : Int) (w : World) :
    Calls Try.prog 17 #[.int .i64 4, .int .i64 n] w fun e w' => e = .returned (.int .i64 (wkr 4 n)) ∧ w = w' := by
  have hw : width 4 = 32 := by decide
  have hs : sgn 4 = true := by decide
  have hp := fun (w : World) => refPower_any 32 (by decide) w
  have HB := Lib.hid (tmod_bd (n := n) (p := 4294967296) (by decide))
  have b1 : -4294967296 < n.tmod 4294967296 := HB.out.1
  have b2 : n.tmod 4294967296 < 4294967296 := HB.out.2
  by_cases hn : n.tmod 4294967296 < 0
  · have HE := Lib.hid (tmod_neg (n := n) (p := 4294967296) (by decide) hn)
    go_enter Try.func17, Try.ntmps17
    go_wp2_with (first | (go_at_call 27; refine (refWidth_any _ _).mono ?_; rintro e w' ⟨rfl, rfl⟩) | (go_at_call 33; refine (refSigned_any _ _).mono ?_; rintro e w' ⟨rfl, rfl⟩) | (go_at_call 32; refine (hp _).mono ?_; rintro e w' ⟨rfl, rfl⟩))
    all_goals go_ret
    all_goals refine ⟨ret_int ?_, rfl⟩
    all_goals have he := HE.out
    all_goals rw [wkr_4]
    all_goals omega
  · have hn' : 0 ≤ n.tmod 4294967296 := Int.not_lt.1 hn
    have HE := Lib.hid (tmod_pos (n := n) (p := 4294967296) (by decide) hn')
    go_enter Try.func17, Try.ntmps17
    go_wp2_with (first | (go_at_call 27; refine (refWidth_any _ _).mono ?_; rintro e w' ⟨rfl, rfl⟩) | (go_at_call 33; refine (refSigned_any _ _).mono ?_; rintro e w' ⟨rfl, rfl⟩) | (go_at_call 32; refine (hp _).mono ?_; rintro e w' ⟨rfl, rfl⟩))
    all_goals go_ret
    all_goals refine ⟨ret_int ?_, rfl⟩
    all_goals have he := HE.out
    all_goals rw [wkr_4]
    all_goals omega

theorem refWrap_5 (n : Int) (w : World) :
    Calls Try.prog 17 #[.int .i64 5, .int .i64 n] w fun e w' => e = .returned (.int .i64 (wkr 5 n)) ∧ w = w' := by
  have hw : width 5 = 64 := by decide
  go_enter Try.func17, Try.ntmps17
  go_wp2_with (first | (go_at_call 27; refine (refWidth_any _ _).mono ?_; rintro e w' ⟨rfl, rfl⟩))
  go_ret
  exact ⟨ret_int (wkr_5 n).symm, rfl⟩

theorem refWrap_6 (n : Int) (w : World) :
    Calls Try.prog 17 #[.int .i64 6, .int .i64 n] w fun e w' => e = .returned (.int .i64 (wkr 6 n)) ∧ w = w' := by
  have hw : width 6 = 8 := by decide
  have hs : sgn 6 = false := by decide
  have hp := fun (w : World) => refPower_any 8 (by decide) w
  have HB := Lib.hid (tmod_bd (n := n) (p := 256) (by decide))
  have b1 : -256 < n.tmod 256 := HB.out.1
  have b2 : n.tmod 256 < 256 := HB.out.2
  by_cases hn : n.tmod 256 < 0
  · have HE := Lib.hid (tmod_neg (n := n) (p := 256) (by decide) hn)
    go_enter Try.func17, Try.ntmps17
    go_wp2_with (first | (go_at_call 27; refine (refWidth_any _ _).mono ?_; rintro e w' ⟨rfl, rfl⟩) | (go_at_call 33; refine (refSigned_any _ _).mono ?_; rintro e w' ⟨rfl, rfl⟩) | (go_at_call 32; refine (hp _).mono ?_; rintro e w' ⟨rfl, rfl⟩))
    all_goals go_ret
    all_goals refine ⟨ret_int ?_, rfl⟩
    all_goals have he := HE.out
    all_goals rw [wkr_6]
    all_goals omega
  · have hn' : 0 ≤ n.tmod 256 := Int.not_lt.1 hn
    have HE := Lib.hid (tmod_pos (n := n) (p := 256) (by decide) hn')
    go_enter Try.func17, Try.ntmps17
    go_wp2_with (first | (go_at_call 27; refine (refWidth_any _ _).mono ?_; rintro e w' ⟨rfl, rfl⟩) | (go_at_call 33; refine (refSigned_any _ _).mono ?_; rintro e w' ⟨rfl, rfl⟩) | (go_at_call 32; refine (hp _).mono ?_; rintro e w' ⟨rfl, rfl⟩))
    all_goals go_ret
    all_goals refine ⟨ret_int ?_, rfl⟩
    all_goals have he := HE.out
    all_goals rw [wkr_6]
    all_goals omega

theorem refWrap_7 (n : Int) (w : World) :
    Calls Try.prog 17 #[.int .i64 7, .int .i64 n] w fun e w' => e = .returned (.int .i64 (wkr 7 n)) ∧ w = w' := by
  have hw : width 7 = 16 := by decide
  have hs : sgn 7 = false := by decide
  have hp := fun (w : World) => refPower_any 16 (by decide) w
  have HB := Lib.hid (tmod_bd (n := n) (p := 65536) (by decide))
  have b1 : -65536 < n.tmod 65536 := HB.out.1
  have b2 : n.tmod 65536 < 65536 := HB.out.2
  by_cases hn : n.tmod 65536 < 0
  · have HE := Lib.hid (tmod_neg (n := n) (p := 65536) (by decide) hn)
    go_enter Try.func17, Try.ntmps17
    go_wp2_with (first | (go_at_call 27; refine (refWidth_any _ _).mono ?_; rintro e w' ⟨rfl, rfl⟩) | (go_at_call 33; refine (refSigned_any _ _).mono ?_; rintro e w' ⟨rfl, rfl⟩) | (go_at_call 32; refine (hp _).mono ?_; rintro e w' ⟨rfl, rfl⟩))
    all_goals go_ret
    all_goals refine ⟨ret_int ?_, rfl⟩
    all_goals have he := HE.out
    all_goals rw [wkr_7]
    all_goals omega
  · have hn' : 0 ≤ n.tmod 65536 := Int.not_lt.1 hn
    have HE := Lib.hid (tmod_pos (n := n) (p := 65536) (by decide) hn')
    go_enter Try.func17, Try.ntmps17
    go_wp2_with (first | (go_at_call 27; refine (refWidth_any _ _).mono ?_; rintro e w' ⟨rfl, rfl⟩) | (go_at_call 33; refine (refSigned_any _ _).mono ?_; rintro e w' ⟨rfl, rfl⟩) | (go_at_call 32; refine (hp _).mono ?_; rintro e w' ⟨rfl, rfl⟩))
    all_goals go_ret
    all_goals refine ⟨ret_int ?_, rfl⟩
    all_goals have he := HE.out
    all_goals rw [wkr_7]
    all_goals omega

theorem refWrap_8 (n : Int) (w : World) :
    Calls Try.prog 17 #[.int .i64 8, .int .i64 n] w fun e w' => e = .returned (.int .i64 (wkr 8 n)) ∧ w = w' := by
  have hw : width 8 = 32 := by decide
  have hs : sgn 8 = false := by decide
  have hp := fun (w : World) => refPower_any 32 (by decide) w
  have HB := Lib.hid (tmod_bd (n := n) (p := 4294967296) (by decide))
  have b1 : -4294967296 < n.tmod 4294967296 := HB.out.1
  have b2 : n.tmod 4294967296 < 4294967296 := HB.out.2
  by_cases hn : n.tmod 4294967296 < 0
  · have HE := Lib.hid (tmod_neg (n := n) (p := 4294967296) (by decide) hn)
    go_enter Try.func17, Try.ntmps17
    go_wp2_with (first | (go_at_call 27; refine (refWidth_any _ _).mono ?_; rintro e w' ⟨rfl, rfl⟩) | (go_at_call 33; refine (refSigned_any _ _).mono ?_; rintro e w' ⟨rfl, rfl⟩) | (go_at_call 32; refine (hp _).mono ?_; rintro e w' ⟨rfl, rfl⟩))
    all_goals go_ret
    all_goals refine ⟨ret_int ?_, rfl⟩
    all_goals have he := HE.out
    all_goals rw [wkr_8]
    all_goals omega
  · have hn' : 0 ≤ n.tmod 4294967296 := Int.not_lt.1 hn
    have HE := Lib.hid (tmod_pos (n := n) (p := 4294967296) (by decide) hn')
    go_enter Try.func17, Try.ntmps17
    go_wp2_with (first | (go_at_call 27; refine (refWidth_any _ _).mono ?_; rintro e w' ⟨rfl, rfl⟩) | (go_at_call 33; refine (refSigned_any _ _).mono ?_; rintro e w' ⟨rfl, rfl⟩) | (go_at_call 32; refine (hp _).mono ?_; rintro e w' ⟨rfl, rfl⟩))
    all_goals go_ret
    all_goals refine ⟨ret_int ?_, rfl⟩
    all_goals have he := HE.out
    all_goals rw [wkr_8]
    all_goals omega

theorem refWrap_9 (n : Int) (w : World) :
    Calls Try.prog 17 #[.int .i64 9, .int .i64 n] w fun e w' => e = .returned (.int .i64 (wkr 9 n)) ∧ w = w' := by
  have hw : width 9 = 64 := by decide
  go_enter Try.func17, Try.ntmps17
  go_wp2_with (first | (go_at_call 27; refine (refWidth_any _ _).mono ?_; rintro e w' ⟨rfl, rfl⟩))
  go_ret
  exact ⟨ret_int (wkr_9 n).symm, rfl⟩

theorem refWrap_none (k n : Int) (hw : width k = 0) (w : World) :
    Calls Try.prog 17 #[.int .i64 k, .int .i64 n] w fun e w' => e = .returned (.int .i64 (wkr k n)) ∧ w = w' := by
  have HE := Lib.hid (wkr_none n hw)
  go_enter Try.func17, Try.ntmps17
  go_wp2_with (first | (go_at_call 27; refine (refWidth_any _ _).mono ?_; rintro e w' ⟨rfl, rfl⟩))
  go_ret
  exact ⟨ret_int HE.out.symm, rfl⟩

theorem refWrap_any (k n : Int) (w : World) :
    Calls Try.prog 17 #[.int .i64 k, .int .i64 n] w fun e w' => e = .returned (.int .i64 (wkr k n)) ∧ w = w' := by
  rcases kinds k with rfl | rfl | rfl | rfl | rfl | rfl | rfl | rfl | rfl | h
  · exact refWrap_1 n w
  · exact refWrap_2 n w
  · exact refWrap_3 n w
  · exact refWrap_4 n w
  · exact refWrap_5 n w
  · exact refWrap_6 n w
  · exact refWrap_7 n w
  · exact refWrap_8 n w
  · exact refWrap_9 n w
  · exact refWrap_none k n h w

theorem refIs_any (k n : Int) (w : World) :
    Calls Try.prog 26 #[.int .i64 k, .int .i64 n] w fun e w' => e = .returned (.bool (isk k n)) ∧ w = w' := by
  go_enter Try.func26, Try.ntmps26
  go_wp2_with (first | (go_at_call 27; refine (refWidth_any _ _).mono ?_; rintro e w' ⟨rfl, rfl⟩) | (go_at_call 17; refine (refWrap_any _ _ _).mono ?_; rintro e w' ⟨rfl, rfl⟩))
  all_goals go_ret
  all_goals refine ⟨?_, rfl⟩
  · simp_all [isk]
  · have h : width k ≤ 0 := by assumption
    simp [isk, Int.not_lt.2 h]
end Go.Proofs.Ytkfljmdgegjgjaa
