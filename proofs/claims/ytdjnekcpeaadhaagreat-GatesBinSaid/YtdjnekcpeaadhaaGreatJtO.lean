/-
  What the reference's functions of chapter 1 do that make no memory.
  No condition but that places of bits lie below 64.
  What the reference's functions of chapter 1 do that make slices.
  No condition but that numbers fit 64 bits.
  What the reference's operations on one value do.
  No condition but that numbers fit 64 bits.
  The law's own helpers: how many inputs, bits, values.
  Conditions: the net lies in memory and is one.
  The law's own helper: the value that wires tell.
  Conditions: the net lies in memory, is one, and tells a value.
-/
import Derived.Test.YtdjnekcpeaadhaaGreatRows
import Derived.Test.YtdjnekcpeaadhaaGreatJtA
import Derived.Test.YtdjnekcpeaadhaaGreatJtI
import Derived.Test.YtdjnekcpeaadhaaGreatJtM
import Derived.Test.YtdjnekcpeaadhaaGreatJtN
import Derived.Test.YtdjnekcpeaadhaaGreatJtL
namespace Go.Proofs.YtdjnekcpeaadhaaGreat
open Go.RowKit
set_option linter.unusedSimpArgs false
set_option linter.unusedVariables false
set_option maxRecDepth 100000

theorem refWidth_any (k : Int) (w : World) :
    Calls Tryz.prog 9 #[.int .i64 k] w fun e w' => e = .returned (.int .i64 (width k)) ∧ w = w' := by
  go_enter Tryz.func9, Tryz.ntmps9
  go_wp2
  all_goals go_ret
  all_goals refine ⟨?_, rfl⟩
  all_goals simp_all [width]

theorem refSigned_any (k : Int) (w : World) :
    Calls Tryz.prog 15 #[.int .i64 k] w fun e w' => e = .returned (.bool (sgn k)) ∧ w = w' := by
  go_enter Tryz.func15, Tryz.ntmps15
  go_wp2
  all_goals go_ret
  all_goals refine ⟨?_, rfl⟩
  · simp_all [sgn]
  · have h : k < 2 := by assumption
    simp [sgn, Int.not_le.2 h]

theorem refTruth_any (b : Bool) (w : World) :
    Calls Tryz.prog 18 #[.bool b] w fun e w' => e = .returned (.int .i64 (tru b)) ∧ w = w' := by
  cases b
  all_goals
    go_enter Tryz.func18, Tryz.ntmps18
    go_wp2
    go_ret
    exact ⟨rfl, rfl⟩

theorem refBit_any (n i : Int) (h0 : 0 ≤ i) (h1 : i < 64) (w : World) :
    Calls Tryz.prog 32 #[.int .i64 n, .int .i64 i] w fun e w' => e = .returned (.int .i64 (n / 2 ^ i.toNat % 2)) ∧ w = w' := by
  go_enter Tryz.func32, Tryz.ntmps32
  go_wp2
  go_ret
  exact ⟨ret_int (bv_and_one _), rfl⟩

theorem refBelow_any (k a b : Int) (ha : I64 a) (hb : I64 b) (w : World) :
    Calls Tryz.prog 21 #[.int .i64 k, .int .i64 a, .int .i64 b] w fun e w' => e = .returned (.bool (blw k a b)) ∧ w = w' := by
  by_cases hk : k = 9
  · subst hk
    have HB := Lib.hid (blw_nine ha hb)
    go_enter Tryz.func21, Tryz.ntmps21
    go_wp2
    all_goals go_ret
    all_goals refine ⟨ret_bool ?_, rfl⟩
    all_goals rw [HB.out]
    all_goals simp_all
  · go_enter Tryz.func21, Tryz.ntmps21
    go_wp2
    go_ret
    exact ⟨ret_bool (by simp [blw, hk]), rfl⟩

theorem refPower_any (m : Nat) (hm : m ≤ 62) (w : World) :
    Calls Tryz.prog 14 #[.int .i64 m] w fun e w' => e = .returned (.int .i64 (2 ^ m)) ∧ w = w' := by
  go_enter Tryz.func14, Tryz.ntmps14
  go_wp2
  go_loop [3, 4] (fun p i => ∃ k : Nat, k ≤ m ∧ i = .int .i64 k ∧ p = .int .i64 (2 ^ k)) (fun _ i => m - (intOf i).toNat)
  case atStart => exact ⟨0, Nat.zero_le _, rfl, rfl⟩
  case round =>
    obtain ⟨k, hk, rfl, rfl⟩ := hrel
    by_cases hlt : k < m
    · obtain ⟨q, hq⟩ : ∃ q : Int, q = 2 ^ k := ⟨_, rfl⟩
      have hq0 : 0 ≤ q := by rw [hq]; exact Int.pow_nonneg (by decide)
      have hq1 : q ≤ 2305843009213693952 := by rw [hq]; exact pow_le61 k (by omega)
      rw [← hq]
      have HQ := Lib.hid hq
      clear hq
      go_wp2
      go_round
      case rel => exact ⟨k + 1, by omega, by go_num, by rw [Int.pow_succ, ← HQ.out, Int.mul_comm]⟩
      case measure => simp [intOf]; omega
    · have : k = m := by omega
      subst this
      go_wp2
      go_ret
      exact ⟨rfl, rfl⟩

theorem refWrap_1 (n : Int) (w : World) :
    Calls Tryz.prog 5 #[.int .i64 1, .int .i64 n] w fun e w' => e = .returned (.int .i64 (wkr 1 n)) ∧ w = w' := by
  have hw : width 1 = 1 := by decide
  have hs : sgn 1 = false := by decide
  have hp := fun (w : World) => refPower_any 1 (by decide) w
  have HB := Lib.hid (tmod_bd (n := n) (p := 2) (by decide))
  have b1 : -2 < n.tmod 2 := HB.out.1
  have b2 : n.tmod 2 < 2 := HB.out.2
  by_cases hn : n.tmod 2 < 0
  · have HE := Lib.hid (tmod_neg (n := n) (p := 2) (by decide) hn)
    go_enter Tryz.func5, Tryz.ntmps5
    go_wp2_with (first | (go_at_call 9; refine (refWidth_any _ _).mono ?_; rintro e w' ⟨rfl, rfl⟩) | (go_at_call 15; refine (refSigned_any _ _).mono ?_; rintro e w' ⟨rfl, rfl⟩) | (go_at_call 14; refine (hp _).mono ?_; rintro e w' ⟨rfl, rfl⟩))
    all_goals go_ret
    all_goals refine ⟨ret_int ?_, rfl⟩
    all_goals have he := HE.out
    all_goals rw [wkr_1]
    all_goals omega
  · have hn' : 0 ≤ n.tmod 2 := Int.not_lt.1 hn
    have HE := Lib.hid (tmod_pos (n := n) (p := 2) (by decide) hn')
    go_enter Tryz.func5, Tryz.ntmps5
    go_wp2_with (first | (go_at_call 9; refine (refWidth_any _ _).mono ?_; rintro e w' ⟨rfl, rfl⟩) | (go_at_call 15; refine (refSigned_any _ _).mono ?_; rintro e w' ⟨rfl, rfl⟩) | (go_at_call 14; refine (hp _).mono ?_; rintro e w' ⟨rfl, rfl⟩))
    all_goals go_ret
    all_goals refine ⟨ret_int ?_, rfl⟩
    all_goals have he := HE.out
    all_goals rw [wkr_1]
    all_goals omega

theorem refWrap_2 (n : Int) (w : World) :
    Calls Tryz.prog 5 #[.int .i64 2, .int .i64 n] w fun e w' => e = .returned (.int .i64 (wkr 2 n)) ∧ w = w' := by
  have hw : width 2 = 8 := by decide
  have hs : sgn 2 = true := by decide
  have hp := fun (w : World) => refPower_any 8 (by decide) w
  have HB := Lib.hid (tmod_bd (n := n) (p := 256) (by decide))
  have b1 : -256 < n.tmod 256 := HB.out.1
  have b2 : n.tmod 256 < 256 := HB.out.2
  by_cases hn : n.tmod 256 < 0
  · have HE := Lib.hid (tmod_neg (n := n) (p := 256) (by decide) hn)
    go_enter Tryz.func5, Tryz.ntmps5
    go_wp2_with (first | (go_at_call 9; refine (refWidth_any _ _).mono ?_; rintro e w' ⟨rfl, rfl⟩) | (go_at_call 15; refine (refSigned_any _ _).mono ?_; rintro e w' ⟨rfl, rfl⟩) | (go_at_call 14; refine (hp _).mono ?_; rintro e w' ⟨rfl, rfl⟩))
    all_goals go_ret
    all_goals refine ⟨ret_int ?_, rfl⟩
    all_goals have he := HE.out
    all_goals rw [wkr_2]
    all_goals omega
  · have hn' : 0 ≤ n.tmod 256 := Int.not_lt.1 hn
    have HE := Lib.hid (tmod_pos (n := n) (p := 256) (by decide) hn')
    go_enter Tryz.func5, Tryz.ntmps5
    go_wp2_with (first | (go_at_call 9; refine (refWidth_any _ _).mono ?_; rintro e w' ⟨rfl, rfl⟩) | (go_at_call 15; refine (refSigned_any _ _).mono ?_; rintro e w' ⟨rfl, rfl⟩) | (go_at_call 14; refine (hp _).mono ?_; rintro e w' ⟨rfl, rfl⟩))
    all_goals go_ret
    all_goals refine ⟨ret_int ?_, rfl⟩
    all_goals have he := HE.out
    all_goals rw [wkr_2]
    all_goals omega

theorem refWrap_3 (n : Int) (w : World) :
    Calls Tryz.prog 5 #[.int .i64 3, .int .i64 n] w fun e w' => e = .returned (.int .i64 (wkr 3 n)) ∧ w = w' := by
  have hw : width 3 = 16 := by decide
  have hs : sgn 3 = true := by decide
  have hp := fun (w : World) => refPower_any 16 (by decide) w
  have HB := Lib.hid (tmod_bd (n := n) (p := 65536) (by decide))
  have b1 : -65536 < n.tmod 65536 := HB.out.1
  have b2 : n.tmod 65536 < 65536 := HB.out.2
  by_cases hn : n.tmod 65536 < 0
  · have HE := Lib.hid (tmod_neg (n := n) (p := 65536) (by decide) hn)
    go_enter Tryz.func5, Tryz.ntmps5
    go_wp2_with (first | (go_at_call 9; refine (refWidth_any _ _).mono ?_; rintro e w' ⟨rfl, rfl⟩) | (go_at_call 15; refine (refSigned_any _ _).mono ?_; rintro e w' ⟨rfl, rfl⟩) | (go_at_call 14; refine (hp _).mono ?_; rintro e w' ⟨rfl, rfl⟩))
    all_goals go_ret
    all_goals refine ⟨ret_int ?_, rfl⟩
    all_goals have he := HE.out
    all_goals rw [wkr_3]
    all_goals omega
  · have hn' : 0 ≤ n.tmod 65536 := Int.not_lt.1 hn
    have HE := Lib.hid (tmod_pos (n := n) (p := 65536) (by decide) hn')
    go_enter Tryz.func5, Tryz.ntmps5
    go_wp2_with (first | (go_at_call 9; refine (refWidth_any _ _).mono ?_; rintro e w' ⟨rfl, rfl⟩) | (go_at_call 15; refine (refSigned_any _ _).mono ?_; rintro e w' ⟨rfl, rfl⟩) | (go_at_call 14; refine (hp _).mono ?_; rintro e w' ⟨rfl, rfl⟩))
    all_goals go_ret
    all_goals refine ⟨ret_int ?_, rfl⟩
    all_goals have he := HE.out
    all_goals rw [wkr_3]
    all_goals omega

theorem refWrap_4 (n : Int) (w : World) :
    Calls Tryz.prog 5 #[.int .i64 4, .int .i64 n] w fun e w' => e = .returned (.int .i64 (wkr 4 n)) ∧ w = w' := by
  have hw : width 4 = 32 := by decide
  have hs : sgn 4 = true := by decide
  have hp := fun (w : World) => refPower_any 32 (by decide) w
  have HB := Lib.hid (tmod_bd (n := n) (p := 4294967296) (by decide))
  have b1 : -4294967296 < n.tmod 4294967296 := HB.out.1
  have b2 : n.tmod 4294967296 < 4294967296 := HB.out.2
  by_cases hn : n.tmod 4294967296 < 0
  · have HE := Lib.hid (tmod_neg (n := n) (p := 4294967296) (by decide) hn)
    go_enter Tryz.func5, Tryz.ntmps5
    go_wp2_with (first | (go_at_call 9; refine (refWidth_any _ _).mono ?_; rintro e w' ⟨rfl, rfl⟩) | (go_at_call 15; refine (refSigned_any _ _).mono ?_; rintro e w' ⟨rfl, rfl⟩) | (go_at_call 14; refine (hp _).mono ?_; rintro e w' ⟨rfl, rfl⟩))
    all_goals go_ret
    all_goals refine ⟨ret_int ?_, rfl⟩
    all_goals have he := HE.out
    all_goals rw [wkr_4]
    all_goals omega
  · have hn' : 0 ≤ n.tmod 4294967296 := Int.not_lt.1 hn
    have HE := Lib.hid (tmod_pos (n := n) (p := 4294967296) (by decide) hn')
    go_enter Tryz.func5, Tryz.ntmps5
    go_wp2_with (first | (go_at_call 9; refine (refWidth_any _ _).mono ?_; rintro e w' ⟨rfl, rfl⟩) | (go_at_call 15; refine (refSigned_any _ _).mono ?_; rintro e w' ⟨rfl, rfl⟩) | (go_at_call 14; refine (hp _).mono ?_; rintro e w' ⟨rfl, rfl⟩))
    all_goals go_ret
    all_goals refine ⟨ret_int ?_, rfl⟩
    all_goals have he := HE.out
    all_goals rw [wkr_4]
    all_goals omega

theorem refWrap_5 (n : Int) (w : World) :
    Calls Tryz.prog 5 #[.int .i64 5, .int .i64 n] w fun e w' => e = .returned (.int .i64 (wkr 5 n)) ∧ w = w' := by
  have hw : width 5 = 64 := by decide
  go_enter Tryz.func5, Tryz.ntmps5
  go_wp2_with (first | (go_at_call 9; refine (refWidth_any _ _).mono ?_; rintro e w' ⟨rfl, rfl⟩))
  go_ret
  exact ⟨ret_int (wkr_5 n).symm, rfl⟩

theorem refWrap_6 (n : Int) (w : World) :
    Calls Tryz.prog 5 #[.int .i64 6, .int .i64 n] w fun e w' => e = .returned (.int .i64 (wkr 6 n)) ∧ w = w' := by
  have hw : width 6 = 8 := by decide
  have hs : sgn 6 = false := by decide
  have hp := fun (w : World) => refPower_any 8 (by decide) w
  have HB := Lib.hid (tmod_bd (n := n) (p := 256) (by decide))
  have b1 : -256 < n.tmod 256 := HB.out.1
  have b2 : n.tmod 256 < 256 := HB.out.2
  by_cases hn : n.tmod 256 < 0
  · have HE := Lib.hid (tmod_neg (n := n) (p := 256) (by decide) hn)
    go_enter Tryz.func5, Tryz.ntmps5
    go_wp2_with (first | (go_at_call 9; refine (refWidth_any _ _).mono ?_; rintro e w' ⟨rfl, rfl⟩) | (go_at_call 15; refine (refSigned_any _ _).mono ?_; rintro e w' ⟨rfl, rfl⟩) | (go_at_call 14; refine (hp _).mono ?_; rintro e w' ⟨rfl, rfl⟩))
    all_goals go_ret
    all_goals refine ⟨ret_int ?_, rfl⟩
    all_goals have he := HE.out
    all_goals rw [wkr_6]
    all_goals omega
  · have hn' : 0 ≤ n.tmod 256 := Int.not_lt.1 hn
    have HE := Lib.hid (tmod_pos (n := n) (p := 256) (by decide) hn')
    go_enter Tryz.func5, Tryz.ntmps5
    go_wp2_with (first | (go_at_call 9; refine (refWidth_any _ _).mono ?_; rintro e w' ⟨rfl, rfl⟩) | (go_at_call 15; refine (refSigned_any _ _).mono ?_; rintro e w' ⟨rfl, rfl⟩) | (go_at_call 14; refine (hp _).mono ?_; rintro e w' ⟨rfl, rfl⟩))
    all_goals go_ret
    all_goals refine ⟨ret_int ?_, rfl⟩
    all_goals have he := HE.out
    all_goals rw [wkr_6]
    all_goals omega

theorem refWrap_7 (n : Int) (w : World) :
    Calls Tryz.prog 5 #[.int .i64 7, .int .i64 n] w fun e w' => e = .returned (.int .i64 (wkr 7 n)) ∧ w = w' := by
  have hw : width 7 = 16 := by decide
  have hs : sgn 7 = false := by decide
  have hp := fun (w : World) => refPower_any 16 (by decide) w
  have HB := Lib.hid (tmod_bd (n := n) (p := 65536) (by decide))
  have b1 : -65536 < n.tmod 65536 := HB.out.1
  have b2 : n.tmod 65536 < 65536 := HB.out.2
  by_cases hn : n.tmod 65536 < 0
  · have HE := Lib.hid (tmod_neg (n := n) (p := 65536) (by decide) hn)
    go_enter Tryz.func5, Tryz.ntmps5
    go_wp2_with (first | (go_at_call 9; refine (refWidth_any _ _).mono ?_; rintro e w' ⟨rfl, rfl⟩) | (go_at_call 15; refine (refSigned_any _ _).mono ?_; rintro e w' ⟨rfl, rfl⟩) | (go_at_call 14; refine (hp _).mono ?_; rintro e w' ⟨rfl, rfl⟩))
    all_goals go_ret
    all_goals refine ⟨ret_int ?_, rfl⟩
    all_goals have he := HE.out
    all_goals rw [wkr_7]
    all_goals omega
  · have hn' : 0 ≤ n.tmod 65536 := Int.not_lt.1 hn
    have HE := Lib.hid (tmod_pos (n := n) (p := 65536) (by decide) hn')
    go_enter Tryz.func5, Tryz.ntmps5
    go_wp2_with (first | (go_at_call 9; refine (refWidth_any _ _).mono ?_; rintro e w' ⟨rfl, rfl⟩) | (go_at_call 15; refine (refSigned_any _ _).mono ?_; rintro e w' ⟨rfl, rfl⟩) | (go_at_call 14; refine (hp _).mono ?_; rintro e w' ⟨rfl, rfl⟩))
    all_goals go_ret
    all_goals refine ⟨ret_int ?_, rfl⟩
    all_goals have he := HE.out
    all_goals rw [wkr_7]
    all_goals omega

theorem refWrap_8 (n : Int) (w : World) :
    Calls Tryz.prog 5 #[.int .i64 8, .int .i64 n] w fun e w' => e = .returned (.int .i64 (wkr 8 n)) ∧ w = w' := by
  have hw : width 8 = 32 := by decide
  have hs : sgn 8 = false := by decide
  have hp := fun (w : World) => refPower_any 32 (by decide) w
  have HB := Lib.hid (tmod_bd (n := n) (p := 4294967296) (by decide))
  have b1 : -4294967296 < n.tmod 4294967296 := HB.out.1
  have b2 : n.tmod 4294967296 < 4294967296 := HB.out.2
  by_cases hn : n.tmod 4294967296 < 0
  · have HE := Lib.hid (tmod_neg (n := n) (p := 4294967296) (by decide) hn)
    go_enter Tryz.func5, Tryz.ntmps5
    go_wp2_with (first | (go_at_call 9; refine (refWidth_any _ _).mono ?_; rintro e w' ⟨rfl, rfl⟩) | (go_at_call 15; refine (refSigned_any _ _).mono ?_; rintro e w' ⟨rfl, rfl⟩) | (go_at_call 14; refine (hp _).mono ?_; rintro e w' ⟨rfl, rfl⟩))
    all_goals go_ret
    all_goals refine ⟨ret_int ?_, rfl⟩
    all_goals have he := HE.out
    all_goals rw [wkr_8]
    all_goals omega
  · have hn' : 0 ≤ n.tmod 4294967296 := Int.not_lt.1 hn
    have HE := Lib.hid (tmod_pos (n := n) (p := 4294967296) (by decide) hn')
    go_enter Tryz.func5, Tryz.ntmps5
    go_wp2_with (first | (go_at_call 9; refine (refWidth_any _ _).mono ?_; rintro e w' ⟨rfl, rfl⟩) | (go_at_call 15; refine (refSigned_any _ _).mono ?_; rintro e w' ⟨rfl, rfl⟩) | (go_at_call 14; refine (hp _).mono ?_; rintro e w' ⟨rfl, rfl⟩))
    all_goals go_ret
    all_goals refine ⟨ret_int ?_, rfl⟩
    all_goals have he := HE.out
    all_goals rw [wkr_8]
    all_goals omega

theorem refWrap_9 (n : Int) (w : World) :
    Calls Tryz.prog 5 #[.int .i64 9, .int .i64 n] w fun e w' => e = .returned (.int .i64 (wkr 9 n)) ∧ w = w' := by
  have hw : width 9 = 64 := by decide
  go_enter Tryz.func5, Tryz.ntmps5
  go_wp2_with (first | (go_at_call 9; refine (refWidth_any _ _).mono ?_; rintro e w' ⟨rfl, rfl⟩))
  go_ret
  exact ⟨ret_int (wkr_9 n).symm, rfl⟩

theorem refWrap_none (k n : Int) (hw : width k = 0) (w : World) :
    Calls Tryz.prog 5 #[.int .i64 k, .int .i64 n] w fun e w' => e = .returned (.int .i64 (wkr k n)) ∧ w = w' := by
  have HE := Lib.hid (wkr_none n hw)
  go_enter Tryz.func5, Tryz.ntmps5
  go_wp2_with (first | (go_at_call 9; refine (refWidth_any _ _).mono ?_; rintro e w' ⟨rfl, rfl⟩))
  go_ret
  exact ⟨ret_int HE.out.symm, rfl⟩

theorem refWrap_any (k n : Int) (w : World) :
    Calls Tryz.prog 5 #[.int .i64 k, .int .i64 n] w fun e w' => e = .returned (.int .i64 (wkr k n)) ∧ w = w' := by
  rcases kinds k with rfl | rfl | rfl | rfl | rfl | rfl | rfl | rfl | rfl | h
  · exact refWrap_1 n w
  · exact refWrap_2 n w
  · exact refWrap_3 n w
  · exact refWrap_4 n w
  · exact refWrap_5 n w
  · exact refWrap_6 n w
  · exact refWrap_7 n w
  · exact refWrap_8 n w
  · exact refWrap_9 n w
  · exact refWrap_none k n h w

theorem refIs_any (k n : Int) (w : World) :
    Calls Tryz.prog 16 #[.int .i64 k, .int .i64 n] w fun e w' => e = .returned (.bool (isk k n)) ∧ w = w' := by
  go_enter Tryz.func16, Tryz.ntmps16
  go_wp2_with (first | (go_at_call 9; refine (refWidth_any _ _).mono ?_; rintro e w' ⟨rfl, rfl⟩) | (go_at_call 5; refine (refWrap_any _ _ _).mono ?_; rintro e w' ⟨rfl, rfl⟩))
  all_goals go_ret
  all_goals refine ⟨?_, rfl⟩
  · simp_all [isk]
  · have h : width k ≤ 0 := by assumption
    simp [isk, Int.not_lt.2 h]
end Go.Proofs.YtdjnekcpeaadhaaGreat
namespace Go.Proofs.YtdjnekcpeaadhaaGreat
open Go.RowKit
set_option linter.unusedSimpArgs false
set_option linter.unusedVariables false
set_option maxRecDepth 100000

set_option maxHeartbeats 1000000 in
theorem refBits_any (k n : Int) (w : World) :
    Calls Tryz.prog 30 #[.int .i64 k, .int .i64 n] w fun e w' => ∃ v, e = .returned v ∧ w'.ownsRow w.heap.size 3 1 v (wid k) ((bitsL (wid k) n).map (.int .i64)) ∧ Ext w w' := by
  obtain ⟨m, hm⟩ : ∃ m, m = wid k := ⟨_, rfl⟩
  have hw : width k = (m : Int) := by rw [hm]; exact width_wid k
  have hm64 : m ≤ 64 := by rw [hm]; exact wid_le k
  rw [← hm]
  clear hm
  obtain ⟨B, hB⟩ : ∃ B, B = w.heap.size := ⟨_, rfl⟩
  have HB := Lib.hid hB
  rw [← hB]
  clear hB
  go_enter Tryz.func30, Tryz.ntmps30
  go_wp2_with (first | (go_at_call 9; refine (refWidth_any _ _).mono ?_; rintro e w' ⟨rfl, rfl⟩))
  go_loopw [5, 7] (fun v i wr => ∃ j : Nat, j ≤ m ∧ i = .int .i64 j ∧ wr.ownsRow B 3 1 v j ((bitsL j n).map (.int .i64)) ∧ Below B w wr) (fun _ i _ => m - (intOf i).toNat)
  case atStart => exact ⟨0, Nat.zero_le _, rfl, World.ownsRow_nil _ _ _ _, Below.refl _ _⟩
  case round =>
    obtain ⟨j, hj, rfl, hown, hbel⟩ := hrel
    by_cases hlt : j < m
    · go_wp2_with (first | (go_at_call 32; refine (refBit_any _ _ (by omega) (by omega) _).mono ?_; rintro e w' ⟨rfl, rfl⟩) | (at_builtin; go_must (refine wpList_append_lit rfl _ _ 29 3 rfl (.int .i64 0) 1 8 Tryz.underlying29 infoInt rfl (by decide) B _ _ _ rfl hown 1 1 _ _ rfl (by simp) rfl (by simp [Value.oneCell']) (by unfold maxLen; omega) (by omega) (by have := hbel.size; have := HB.out; omega) ?_); intro v1 w1 hown1 hg1 hb1))
      go_roundw
      case rel => exact ⟨j + 1, by omega, by go_num, by rw [bitsL_succ, List.map_append]; exact hown1, hbel.trans hb1⟩
      case measure => simp [intOf]; omega
    · obtain rfl : j = m := by omega
      go_wp2
      go_ret
      exact ⟨_, rfl, hown, by unfold Ext; rw [← HB.out]; exact hbel⟩

theorem pow_le63 (k : Nat) (h : k ≤ 63) : (2 : Int) ^ k ≤ 9223372036854775808 := by
  have h1 : (2 : Nat) ^ k ≤ 2 ^ 63 := Nat.pow_le_pow_right (by decide) h
  have h2 : ((2 ^ k : Nat) : Int) ≤ ((2 ^ 63 : Nat) : Int) := Int.ofNat_le.2 h1
  rw [Int.natCast_pow] at h2
  exact h2
theorem pow_le62 (k : Nat) (h : k ≤ 62) : (2 : Int) ^ k ≤ 4611686018427387904 := by
  have h1 : (2 : Nat) ^ k ≤ 2 ^ 62 := Nat.pow_le_pow_right (by decide) h
  have h2 : ((2 ^ k : Nat) : Int) ≤ ((2 ^ 62 : Nat) : Int) := Int.ofNat_le.2 h1
  rw [Int.natCast_pow] at h2
  exact h2

set_option maxHeartbeats 1000000 in
theorem refFrom_any (k : Int) (l : List Int) (v : Value) (w : World) (hv : SlC w v l.length (l.map (.int .i64))) (hl : l.length ≤ 4294967296) :
    Calls Tryz.prog 29 #[.int .i64 k, v] w fun e w' => e = .returned (.int .i64 (wkr k (fromS l (min (wid k) l.length)))) ∧ w = w' := by
  obtain ⟨m, hm⟩ : ∃ m, m = wid k := ⟨_, rfl⟩
  have hw : width k = (m : Int) := by rw [hm]; exact width_wid k
  have hm64 : m ≤ 64 := by rw [hm]; exact wid_le k
  rw [← hm]
  clear hm
  obtain ⟨a, cap, rfl, hnc, hcm, hc⟩ := hv
  obtain ⟨n, hn⟩ : ∃ n, n = l.length := ⟨_, rfl⟩
  rw [← hn]
  rw [← hn] at hl hnc
  have HN := Lib.hid hn
  clear hn
  go_enter Tryz.func29, Tryz.ntmps29
  go_wp2_with (first | (go_at_call 9; refine (refWidth_any _ _).mono ?_; rintro e w' ⟨rfl, rfl⟩))
  go_loop [5, 7] (fun s i => ∃ j : Nat, j ≤ m ∧ j ≤ n ∧ i = .int .i64 j ∧ s = .int .i64 (fromS l j)) (fun _ i => m - (intOf i).toNat)
  case atStart => exact ⟨0, Nat.zero_le _, Nat.zero_le _, rfl, rfl⟩
  case round =>
    obtain ⟨j, hj, hjn, rfl, rfl⟩ := hrel
    by_cases hlt : j < m
    · by_cases hlt2 : j < n
      · have hb := fromS_bd l j (by omega)
        have hg : l[j]? = some (l[j]'(by have := HN.out; omega)) := List.getElem?_eq_getElem _
        obtain ⟨x, hx⟩ : ∃ x, x = l[j]'(by have := HN.out; omega) := ⟨_, rfl⟩
        rw [← hx] at hg
        clear hx
        obtain ⟨b, o, rfl, hcell⟩ := hc j (.int .i64 x) (by simp [hg])
        have hgd : l.getD j 0 = x := by simp [hg]
        have HS := Lib.hid (show fromS l (j + 1) = if x = 0 then fromS l j else if j = 63 then fromS l j + -9223372036854775808 else fromS l j + 2 ^ j from by rw [← hgd]; rfl)
        obtain ⟨s, hs⟩ : ∃ s, s = fromS l j := ⟨_, rfl⟩
        rw [← hs] at hb ⊢
        rw [← hs] at HS
        clear hs hgd hg hc
        by_cases hx0 : x = 0
        · subst hx0
          clear hb
          go_wp2
          go_round
          case rel => exact ⟨j + 1, by omega, by omega, by go_num, by rw [HS.out]; rfl⟩
          case measure => simp [intOf]; omega
        · have hx1 : (x == 0) = false := by simpa using hx0
          by_cases hj3 : j = 63
          · have hp := pow_le63 j (by omega)
            have hs1 : 0 ≤ s := hb.1
            have hs2 : s ≤ 9223372036854775807 := by omega
            clear hb hp
            have HS' := Lib.hid (HS.out.trans (by rw [if_neg hx0, if_pos hj3]))
            clear HS
            subst hj3
            go_wp2
            go_round
            case rel => exact ⟨64, by omega, by omega, rfl, by rw [HS'.out]⟩
            case measure => simp [intOf]; omega
          · have hp := pow_le62 j (by omega)
            have hp0 : (0 : Int) < 2 ^ j := Int.pow_pos (by decide)
            have hs1 : 0 ≤ s := hb.1
            have hs2 : s ≤ 4611686018427387903 := by omega
            clear hb
            have HS' := Lib.hid (HS.out.trans (by rw [if_neg hx0, if_neg hj3]))
            clear HS
            have hj63 : j < 63 := by omega
            go_wp2_with (first | (go_at_call 14; refine (refPower_any _ (by omega) _).mono ?_; rintro e w' ⟨rfl, rfl⟩))
            go_round
            case rel => exact ⟨j + 1, by omega, by omega, by go_num, by rw [HS'.out]⟩
            case measure => simp [intOf]; omega
      · obtain rfl : j = n := by omega
        go_wp2_with (first | (go_at_call 5; refine (refWrap_any _ _ _).mono ?_; rintro e w' ⟨rfl, rfl⟩))
        go_ret
        exact ⟨ret_int (by congr 2; omega), rfl⟩
    · obtain rfl : j = m := by omega
      go_wp2_with (first | (go_at_call 5; refine (refWrap_any _ _ _).mono ?_; rintro e w' ⟨rfl, rfl⟩))
      go_ret
      exact ⟨ret_int (by congr 2; omega), rfl⟩
end Go.Proofs.YtdjnekcpeaadhaaGreat
namespace Go.Proofs.YtdjnekcpeaadhaaGreat
open Go.RowKit
set_option linter.unusedSimpArgs false
set_option linter.unusedVariables false
set_option maxRecDepth 100000

def runv (op k a : Int) : Int × Bool :=
  if isk k a = false then (0, false) else if op = 1 then (wkr k (fromS ((bitsL (wid k) a).map (fun x => 1 - x)) (wid k)), true)
  else if op = 2 ∧ k ≠ 1 then (wkr k (wrap64 (-a)), true) else (0, false)

end Go.Proofs.YtdjnekcpeaadhaaGreat
namespace Go.Proofs.YtdjnekcpeaadhaaGreat
open Go.RowKit
set_option linter.unusedSimpArgs false
set_option linter.unusedVariables false
set_option maxRecDepth 100000

set_option maxHeartbeats 4000000 in
theorem inputsI_any (l : List GateV) (gv : Value) (w : World) (h : GatesIn w gv l) (hl : l.length ≤ 200000) (m : Nat) (hm : m ≤ l.length) (h2m : ∀ j q, l[j]? = some q → (q.op = 2 ↔ j < m)) :
    Calls Tryz.prog 28 #[.agg #[gv]] w fun e w' => ∃ a c, e = .returned (.slice a m c) ∧ Hid (Ext w w' ∧ SlC w' (.slice a m c) m (wvs (List.range m))) := by
  have HMM := Lib.hid (And.intro hm h2m)
  obtain ⟨a, cap, rfl, -, -, hc⟩ := id h
  have HC := Lib.hid hc
  obtain ⟨n, hn⟩ : ∃ n, n = l.length := ⟨_, rfl⟩
  have HN := Lib.hid hn
  rw [← hn] at hl ⊢
  clear h hc hn hm h2m
  go_enter Tryz.func28, Tryz.ntmps28
  go_upto_region 1 with fail
  have hbX := BoxV.of_row (heap_alloc_last w (.cells #[.slice a n cap] 28))
  have hE : Ext w (w.alloc (.cells #[.slice a n cap] 28)) := (Ext.refl w).alloc _
  generalize hw1 : w.alloc (.cells #[.slice a n cap] 28) = w1 at hbX hE ⊢
  have hX1 : w.heap.size < w1.heap.size := by rw [← hw1, World.size_alloc]; omega
  clear hw1
  generalize hXX : w.heap.size = X at hbX ⊢
  have hXe : w.heap.size = X := hXX
  rw [hXX] at hX1
  clear hXX
  have p0 := hbX.cells 0 _ rfl
  have HE := Lib.hid hE
  clear hbX
  go_wp2
  go_loopw [3, 4] (fun o i wr => ∃ (j d : Nat) (ov : Value), j ≤ n ∧ i = .int .i64 j ∧ o = ov ∧ Hid (wr.ownsRow w1.heap.size 3 1 ov d (wvs (List.range d)) ∧ Ext w1 wr ∧ d = min j m) ∧ ∃ x y z, ov = .slice x y z) (fun _ i _ => n - (intOf i).toNat)
  case atStart => exact ⟨0, 0, _, Nat.zero_le _, rfl, rfl, Lib.hid ⟨own_nil _ _ _ _, Ext.refl _, by omega⟩, _, _, _, rfl⟩
  case round =>
    obtain ⟨j, d, ov, hj, rfl, rfl, HO, ox, oy, oz, rfl⟩ := hrel
    have q0 := HO.out.2.1.cell p0
    by_cases hlt : j < n
    · have hji : (j : Int) < (n : Int) := Int.ofNat_lt.2 hlt
      obtain ⟨q, hq⟩ : ∃ q, l[j]? = some q := ⟨_, List.getElem?_eq_getElem (by have := HN.out; omega)⟩
      obtain ⟨b3, o3, rfl, g0⟩ := HC.out (j * 3) _ (gateCells_at l j q hq).1
      replace g0 := HO.out.2.1.cell (HE.out.cell g0)
      have HTK := Lib.hid (HMM.out.2 j q hq)
      have hin : d ≤ 200000 := by have := HO.out.2.2; omega
      have hs1 := HO.out.2.1.size
      obtain ⟨op, qa, qb⟩ := q
      dsimp only at g0
      clear hq
      by_cases h2 : op = 2
      · have HK : Hid (d = j ∧ d + 1 = min (j + 1) m) := Lib.hid (by have h5 := HTK.out.1 h2; have := HO.out.2.2; omega)
        subst h2
        go_wp2_with (at_builtin; (refine wpList_append_slc _ rfl (.tmp 19) (.tmp 21) 29 rfl w1.heap.size 3 (.int .i64 0) 1 8 Tryz.underlying29 infoInt rfl (by decide) (.slice ox oy oz) d (wvs (List.range d)) rfl (ownsRow_ext HO.out.1 (by repeat first | exact Ext.refl _ | assumption | refine Ext.drew ?_ | refine Ext.drewN ?_ _ | refine Ext.extBy ?_ _ | refine Ext.alloc ?_ _ | refine Ext.setCell ?_ (by simp; try omega) _ | (refine Ext.trans ?_ (by assumption)))) _ 1 [.int .i64 (j : Int)] rfl (SlC.fresh _ #[.int .i64 (j : Int)] _ 1 _ (by simp) (by decide)) rfl (by simp [Value.oneCell']) (by unfold maxLen; omega) (by omega) (by simp; omega) ?_; intro v3 w6 hown3 hg3 hat3; obtain ⟨x3, y3, z3, rfl⟩ := own_slice3 hown3; have HP := Lib.hid (And.intro hown3 (below_grown (B := w1.heap.size) (base := w1.heap.size) (HO.out.2.1.alloc _) (Nat.le_refl _) (by simp; omega) (ownsRow_ext HO.out.1 (by repeat first | exact Ext.refl _ | assumption | refine Ext.drew ?_ | refine Ext.drewN ?_ _ | refine Ext.extBy ?_ _ | refine Ext.alloc ?_ _ | refine Ext.setCell ?_ (by simp; try omega) _ | (refine Ext.trans ?_ (by assumption)))) hg3)); clear hown3 hg3 hat3))
        refine ⟨⟨j + 1, d + 1, _, by omega, by go_num, rfl, Lib.hid ⟨?_, HP.out.2, HK.out.2⟩, _, _, _, rfl⟩, by simp [intOf]; omega⟩
        rw [List.range_succ, wvs_snoc]
        have h7 := HP.out.1
        rw [← HK.out.1] at h7
        exact h7
      · have HK : Hid (d = min (j + 1) m) := Lib.hid (by have h5 : ¬ j < m := fun e => h2 (HTK.out.2 e); have := HO.out.2.2; omega)
        have h2b : (op == 2) = false := by simpa using h2
        clear h2
        go_wp2
        exact ⟨⟨j + 1, d, _, by omega, by go_num, rfl, Lib.hid ⟨HO.out.1, HO.out.2.1, HK.out⟩, _, _, _, rfl⟩, by simp [intOf]; omega⟩
    · have hji : ¬ (j : Int) < (n : Int) := fun e => hlt (Int.ofNat_lt.1 e)
      have hdm : d = m := by have := HO.out.2.2; have := HMM.out.1; have := HN.out; omega
      subst hdm
      have hRj : oy = d := by
        obtain ⟨a', c', e⟩ := own_n HO.out.1
        simp only [Value.slice.injEq] at e
        exact e.2.1
      subst hRj
      go_wp2
      go_ret
      exact ⟨_, _, rfl, Lib.hid ⟨HE.out.trans HO.out.2.1, SlC.of_owns HO.out.1⟩⟩
set_option maxHeartbeats 4000000 in
theorem gatesInputs_any (l : List GateV) (gv : Value) (w : World) (h : GatesIn w gv l) (hl : l.length ≤ 200000) (m : Nat) (hm : m ≤ l.length) (h2m : ∀ j q, l[j]? = some q → (q.op = 2 ↔ j < m)) :
    Calls Tryz.prog 8 #[.agg #[gv]] w fun e w' => e = .returned (.int .i64 (m : Int)) ∧ Ext w w' := by
  have HI : Hid (∀ w1, Ext w w1 → Calls Tryz.prog 28 #[.agg #[gv]] w1 fun e w' => ∃ a c, e = .returned (.slice a m c) ∧ Hid (Ext w1 w' ∧ SlC w' (.slice a m c) m (wvs (List.range m)))) := Lib.hid (fun w1 hx => inputsI_any l gv w1 (SlC.ext h hx) hl m hm h2m)
  obtain ⟨a, cap, rfl, -, -, -⟩ := id h
  have hmb : m ≤ 200000 := by omega
  generalize l.length = n at *
  clear h h2m hm
  go_enter Tryz.func8, Tryz.ntmps8
  go_upto_region 1 with fail
  have hbX := BoxV.of_row (heap_alloc_last w (.cells #[.slice a n cap] 28))
  have hE : Ext w (w.alloc (.cells #[.slice a n cap] 28)) := (Ext.refl w).alloc _
  generalize w.alloc (.cells #[.slice a n cap] 28) = w1 at hbX hE ⊢
  generalize w.heap.size = X at hbX ⊢
  have p0 := hbX.cells 0 _ rfl
  have HE := Lib.hid hE
  clear hbX hE
  go_wp2_with (go_at_call 28; refine (HI.out _ HE.out).mono ?_; rintro e w2 ⟨a2, c2, rfl, H2⟩)
  go_loopw [4] (fun i wr => ∃ j : Nat, j ≤ m ∧ i = .int .i64 j ∧ Ext w2 wr) (fun i _ => m - (intOf i).toNat)
  case atStart => exact ⟨0, Nat.zero_le _, rfl, Ext.refl _⟩
  case round =>
    obtain ⟨j, hj, rfl, hxr⟩ := hrel
    have HXR := Lib.hid hxr
    by_cases hlt : j < m
    · have hji : (j : Int) < (m : Int) := Int.ofNat_lt.2 hlt
      obtain ⟨a', c', e, -, -, hc⟩ := H2.out.2
      simp only [Value.slice.injEq] at e
      obtain ⟨b, o, e1, h1⟩ := hc j (.int .i64 (j : Int)) (by simp [wvs, hlt])
      obtain rfl := e.1.trans e1
      replace h1 := hxr.cell h1
      have hbl := World.block_lt_of_cell? wr _ h1
      clear hc e e1 hxr
      go_wp2
      exact ⟨⟨j + 1, by omega, by go_num, HXR.out⟩, by simp [intOf]; omega⟩
    · have hji : ¬ (j : Int) < (m : Int) := fun e => hlt (Int.ofNat_lt.1 e)
      clear hxr
      go_wp2
      go_ret
      exact ⟨rfl, HE.out.trans (H2.out.1.trans HXR.out)⟩
set_option maxHeartbeats 4000000 in
theorem bits22_any (k n : Int) (w : World) :
    Calls Tryz.prog 11 #[.int .i64 k, .int .i64 n] w fun e w' => ∃ a c, e = .returned (.slice a (wid k) c) ∧ Hid (Ext w w' ∧ w'.ownsRow w.heap.size 4 1 (.slice a (wid k) c) (wid k) (bools (bitsB k n))) := by
  have hBt := refBits_any k n
  have hm64 := wid_le k
  have HBL : Hid ((bitsL (wid k) n).length = wid k) := Lib.hid (bitsL_length _ _)
  obtain ⟨L, hL⟩ : ∃ L, L = bitsL (wid k) n := ⟨_, rfl⟩
  have HBB : Hid (bitsB k n = L.map (· == 1)) := Lib.hid (by rw [hL]; rfl)
  rw [← hL] at hBt HBL
  obtain ⟨m, hm⟩ : ∃ m, m = wid k := ⟨_, rfl⟩
  rw [← hm] at hBt HBL hm64 ⊢
  have HBt := Lib.hid hBt
  clear hBt hL hm
  go_enter Tryz.func11, Tryz.ntmps11
  go_wp2_with (go_at_call 30; refine (HBt.out w).mono ?_; rintro e w1 ⟨v, rfl, hown, hx⟩; obtain ⟨x1, y1, z1, rfl⟩ := own_slice3 hown; have HO := Lib.hid (And.intro hown hx); clear hown hx)
  have hy : y1 = m := by
    obtain ⟨a', c', e⟩ := own_n HO.out.1
    simp only [Value.slice.injEq] at e
    exact e.2.1
  subst hy
  obtain ⟨i0, hi, hz0, hz1, hz2⟩ := info_parts infoBool
  go_loopw [6, 7] (fun o i wr => ∃ (j c : Nat) (a : Option Addr), j ≤ y1 ∧ i = .int .i64 j ∧ o = .slice a j c ∧ Hid (Ext w1 wr ∧ wr.ownsRow w1.heap.size 4 1 (.slice a j c) j (bools ((L.map (· == 1)).take j)))) (fun _ i _ => y1 - (intOf i).toNat)
  case atStart => exact ⟨0, 0, none, Nat.zero_le _, rfl, rfl, Lib.hid ⟨Ext.refl _, own_nil _ _ _ _⟩⟩
  case round =>
    obtain ⟨j, c, a, hj, rfl, rfl, HR⟩ := hrel
    by_cases hlt : j < y1
    · have hji : (j : Int) < (y1 : Int) := Int.ofNat_lt.2 hlt
      obtain ⟨x, hx⟩ : ∃ x, L[j]? = some x := ⟨_, List.getElem?_eq_getElem (by have := HBL.out; omega)⟩
      obtain ⟨a', c', e, -, -, hc⟩ := SlC.of_owns HO.out.1
      simp only [Value.slice.injEq] at e
      obtain ⟨b, o, e1, h1⟩ := hc j (.int .i64 x) (by simp [hx])
      obtain rfl := e.1.trans e1
      replace h1 := HR.out.1.cell h1
      have hbl := World.block_lt_of_cell? wr _ h1
      have HT : Hid ((L.map (· == 1)).take (j + 1) = (L.map (· == 1)).take j ++ [x == 1]) := Lib.hid (by
        rw [List.take_add_one, List.getElem?_map, hx]; rfl)
      have hs1 := HR.out.1.size
      have HLn : Hid ((bools ((L.map (· == 1)).take j)).length = j) := Lib.hid (by have := HBL.out; simp [bools]; omega)
      clear hc e e1 hx
      cases hxb : (x == 1)
      all_goals
        rw [hxb] at HT
        go_wp2_with (at_builtin; (refine wpList_append_slc _ rfl (.tmp 17) (.tmp 23) 36 rfl w1.heap.size 4 (.bool false) 1 1 Tryz.underlying36 infoBool rfl (by decide) (.slice a j c) j (bools ((L.map (· == 1)).take j)) rfl (ownsRow_ext HR.out.2 ((Ext.refl wr).alloc _)) _ 1 [.bool _] rfl (SlC.fresh _ #[.bool _] _ 1 _ (by simp) (by decide)) rfl (by simp [Value.oneCell']) (by unfold maxLen; omega) (by omega) (by simp; omega) ?_; intro v3 w6 hown3 hg3 hat3; obtain ⟨x3, y3, z3, rfl⟩ := own_slice3 hown3; have HP := Lib.hid (And.intro hown3 (below_grown (B := w1.heap.size) (base := w1.heap.size) (HR.out.1.alloc _) (Nat.le_refl _) (by simp; omega) (ownsRow_ext HR.out.2 ((Ext.refl wr).alloc _)) hg3)); clear hown3 hg3 hat3))
        have hy3 : y3 = j + 1 := by
          obtain ⟨a2, c2, e⟩ := own_n HP.out.1
          simp only [Value.slice.injEq] at e
          exact e.2.1
        subst hy3
        refine ⟨⟨j + 1, z3, x3, by omega, by go_num, rfl, Lib.hid ⟨HP.out.2, ?_⟩⟩, by simp [intOf]; omega⟩
        rw [HT.out, show ∀ (u : List Bool) (b : Bool), bools (u ++ [b]) = bools u ++ [.bool b] from fun u b => by simp [bools]]
        exact HP.out.1
    · have hji : ¬ (j : Int) < (y1 : Int) := fun e => hlt (Int.ofNat_lt.1 e)
      obtain rfl : j = y1 := by omega
      go_wp2
      go_ret
      refine ⟨a, c, rfl, Lib.hid ⟨HO.out.2.trans HR.out.1, ?_⟩⟩
      have h1 := HR.out.2
      rw [List.take_of_length_le (by rw [List.length_map]; have := HBL.out; omega), ← HBB.out] at h1
      exact own_base h1 HO.out.2.size
end Go.Proofs.YtdjnekcpeaadhaaGreat
namespace Go.Proofs.YtdjnekcpeaadhaaGreat
open Go.RowKit
set_option linter.unusedSimpArgs false
set_option linter.unusedVariables false
set_option maxRecDepth 100000

theorem insN_in (m : Nat) (hs : List Gt) (h : ∀ g ∈ hs, g.op ≠ 2) : insN ((List.replicate m inG ++ hs).map gvOf) = m := by
  rw [List.map_append, insN_append]
  have e1 : insN ((List.replicate m inG).map gvOf) = m := by
    unfold insN
    rw [List.map_replicate, List.filter_eq_self.2 (fun q hq => by rw [(List.mem_replicate.1 hq).2]; rfl), List.length_replicate]
  have e2 : insN (hs.map gvOf) = 0 := by
    unfold insN
    rw [List.length_eq_zero_iff, List.filter_eq_nil_iff]
    intro q hq
    obtain ⟨g, hg, rfl⟩ := List.mem_map.1 hq
    have := h g hg
    unfold gvOf
    simp only [beq_iff_eq]
    omega
  omega
theorem NetTells.first {ins : List Bool} {R : BL} {m w : Nat} {V : Int} (h : NetTells ins R m w V) : m ≤ (R.1.gs.map gvOf).length ∧ ∀ j q, (R.1.gs.map gvOf)[j]? = some q → (q.op = 2 ↔ j < m) := by
  obtain ⟨hs, e, hn⟩ := h.inp
  rw [e]
  refine ⟨by simp, fun j q hq => ?_⟩
  rw [List.getElem?_map] at hq
  by_cases hj : j < m
  · rw [List.getElem?_append_left (by simpa using hj), List.getElem?_eq_getElem (by simpa using hj)] at hq
    simp at hq
    subst hq
    exact ⟨fun _ => hj, fun _ => rfl⟩
  · rw [List.getElem?_append_right (by simp; omega)] at hq
    obtain ⟨g, hg, rfl⟩ := Option.map_eq_some_iff.1 hq
    have := hn g (List.mem_of_getElem? hg)
    refine ⟨fun e => absurd ?_ this, fun e => absurd e hj⟩
    unfold gvOf at e
    dsimp only at e
    omega
set_option maxHeartbeats 8000000 in
theorem value22_any (k : Int) (R : BL) (ins : List Bool) (V : Int) (hT : NetTells ins R ins.length (wid k) V) (hV : isk k V = true) (iV : I64 V) (gv wv iv : Value) (w : World) (hg : GatesIn w gv (R.1.gs.map gvOf)) (hw : SlC w wv R.2.length (wvs R.2)) (hi : SlC w iv ins.length (bools ins)) :
    Calls Tryz.prog 10 #[.int .i64 k, .agg #[gv], wv, iv] w fun e w' => e = .returned (.tuple #[.int .i64 V, .bool true]) ∧ Ext w w' := by
  obtain ⟨zs, z1, z2, z3⟩ := hT.vals
  obtain ⟨vs, hvs⟩ : ∃ v, v = evalN (R.1.gs.map gvOf) [] ins := ⟨_, rfl⟩
  rw [← hvs] at z1
  have hk64 := wid_le k
  have hMl : R.2.length = wid k := by rw [← z2, ← z1, List.length_map]
  obtain ⟨M, hM⟩ : ∃ M, M = wid k := ⟨_, rfl⟩
  obtain ⟨n, hn⟩ : ∃ n, n = R.1.gs.length := ⟨_, rfl⟩
  have hvl : vs.length = n := by rw [hvs, evalN_len, List.length_map, hn]; simp
  have hn2 : n ≤ 200000 := by rw [hn]; exact hT.len
  have hwk : width k = (M : Int) := by rw [width_wid, hM]
  have HEV : Hid (∀ w1, Ext w w1 → Calls Tryz.prog 12 #[.agg #[gv], iv] w1 (EvG w1 n vs)) := Lib.hid (fun w1 hx => by
    have h1 := evalR_ok (R.1.gs.map gvOf) gv ins iv w1 (SlC.ext hg hx) hT.wf (hi.ext hx) (by rw [List.length_map]; exact hT.len) hT.ok (by obtain ⟨hs, e, he⟩ := hT.inp; rw [e]; exact insN_in _ _ he)
    rw [List.length_map, ← hn, ← hvs] at h1
    exact h1)
  have HF : Hid (∀ v w1, SlC w1 v M ((zs.map b2i).map (.int .i64)) → Calls Tryz.prog 29 #[.int .i64 k, v] w1 fun e w' => e = .returned (.int .i64 V) ∧ w1 = w') := Lib.hid (fun v w1 h => by
    have hl : (zs.map b2i).length = M := by rw [List.length_map, z2, hM]
    have h1 := refFrom_any k (zs.map b2i) v w1 (by rw [hl]; exact h) (by omega)
    rw [hl, hM, Nat.min_self, from_bits z2 z3 hV iV] at h1
    exact h1)
  have HW : Hid (∀ (j u : Nat), R.2[j]? = some u → u < 2 * n ∧ zs[j]? = some (wireV vs (u : Int))) := Lib.hid (fun j u hu => ⟨by rw [hn]; exact hT.lt u (List.mem_of_getElem? hu), by rw [← z1, List.getElem?_map, hu]; rfl⟩)
  have HVS : Hid (vs.length = n ∧ zs.length = M) := Lib.hid ⟨hvl, by rw [z2, hM]⟩
  rw [← hM] at hMl hk64
  obtain ⟨ws, hws⟩ : ∃ l, l = R.2 := ⟨_, rfl⟩
  rw [← hws] at HW hw hMl
  rw [hMl] at hw
  obtain ⟨ag, cg, rfl, -, -, -⟩ := id hg
  obtain ⟨aw, cw, rfl, hcc, hcm, hwc⟩ := id hw
  obtain ⟨ai, ci, rfl, -, -, -⟩ := id hi
  have HWC := Lib.hid (And.intro hwc hMl)
  rw [List.length_map, ← hn] at *
  have hcI : (cw : Int) ≤ 9223372036854775807 := by unfold maxLen at hcm; omega
  clear hg hw hi hT hV iV z1 z2 z3 hvs hvl hM hn hwc hMl hws hcm
  go_enter Tryz.func10, Tryz.ntmps10
  go_upto_region 1 with fail
  have hbX := BoxV.of_row (heap_alloc_last w (.cells #[.slice ag n cg] 28))
  have hE : Ext w (w.alloc (.cells #[.slice ag n cg] 28)) := (Ext.refl w).alloc _
  generalize w.alloc (.cells #[.slice ag n cg] 28) = w1 at hbX hE ⊢
  generalize w.heap.size = X at hbX ⊢
  have p0 := hbX.cells 0 _ rfl
  have HE := Lib.hid hE
  clear hbX hE
  go_wp2_with (first | (go_at_call 12; refine (HEV.out _ HE.out).mono ?_; rintro e w2 ⟨g2, rfl, H2⟩) | (go_at_call 9; refine (refWidth_any _ _).mono ?_; rintro e w3 ⟨rfl, rfl⟩))
  have HX2 := Lib.hid (HE.out.trans H2.out.1)
  have HSV : Hid (∀ wx, Ext w2 wx → SlC wx (.slice (some ⟨g2, 0, none⟩) n n) vs.length (bools vs)) := Lib.hid (fun wx hx => by rw [HVS.out.1]; exact (SlC.of_owns H2.out.2).ext hx)
  go_loopw [12, 13] (fun o i wr => ∃ (j c : Nat) (a : Option Addr), j ≤ M ∧ i = .int .i64 j ∧ o = .slice a j c ∧ Hid (Ext w2 wr ∧ wr.ownsRow w2.heap.size 3 1 (.slice a j c) j (((zs.map b2i).take j).map (.int .i64)))) (fun _ i _ => M - (intOf i).toNat)
  case atStart => exact ⟨0, 0, none, Nat.zero_le _, rfl, rfl, Lib.hid ⟨Ext.refl _, own_nil _ _ _ _⟩⟩
  case round =>
    obtain ⟨j, c, a, hj, rfl, rfl, HR⟩ := hrel
    by_cases hlt : j < M
    · have hji : (j : Int) < (M : Int) := Int.ofNat_lt.2 hlt
      obtain ⟨u, hu⟩ : ∃ u, ws[j]? = some u := ⟨_, List.getElem?_eq_getElem (by have := HWC.out.2; omega)⟩
      obtain ⟨hu2, hz⟩ := HW.out j u hu
      obtain ⟨b, o, rfl, h1⟩ := HWC.out.1 j _ (wvs_get hu)
      replace h1 := HR.out.1.cell (HX2.out.cell h1)
      have hbl := World.block_lt_of_cell? wr _ h1
      obtain ⟨z, hzz⟩ : ∃ z, z = wireV vs (u : Int) := ⟨_, rfl⟩
      rw [← hzz] at hz
      have HWR : Hid (Calls Tryz.prog 13 #[.slice (some ⟨g2, 0, none⟩) n n, .int .i64 (u : Int)] wr fun e w' => e = .returned (.bool z) ∧ wr = w') := Lib.hid (by rw [hzz]; have := HVS.out.1; exact wireR_any vs _ u (by omega) (by omega) wr (HSV.out wr HR.out.1))
      have HT : Hid ((zs.map b2i).take (j + 1) = (zs.map b2i).take j ++ [b2i z]) := Lib.hid (by
        rw [List.take_add_one, List.getElem?_map, hz]; rfl)
      have hu0 : (0 : Int) ≤ (u : Int) := by omega
      have hu3 : (u : Int) < 2 * (n : Int) := by omega
      have hn3 : IntKind.i64.wrap (2 * (n : Int)) = 2 * (n : Int) := IntWalk.i64_in _ (by omega)
      have hcw : ¬ cw = 0 := fun e => by
        subst e
        omega
      clear hu hz hzz hu2
      go_upto_region 11 with fail
      have hs1 := HR.out.1.size
      have hlen : Hid ((((zs.map b2i).take j).map (Value.int .i64)).length = j) := Lib.hid (by have := HVS.out.2; simp; omega)
      cases z
      all_goals
        go_wp2_with (first | (go_at_call 13; refine HWR.out.mono ?_; rintro e w' ⟨rfl, rfl⟩) | (at_builtin; (refine wpList_append_slc _ rfl (.tmp 57) (.tmp 59) 29 rfl w2.heap.size 3 (.int .i64 0) 1 8 Tryz.underlying29 infoInt rfl (by decide) (.slice a j c) j (((zs.map b2i).take j).map (.int .i64)) rfl (ownsRow_ext HR.out.2 ((Ext.refl wr).alloc _)) _ 1 [.int .i64 _] rfl (SlC.fresh _ #[.int .i64 _] _ 1 _ (by simp) (by decide)) rfl (by simp [Value.oneCell']) (by unfold maxLen; omega) (by omega) (by simp; omega) ?_; intro v3 w6 hown3 hg3 hat3; obtain ⟨x3, y3, z3, rfl⟩ := own_slice3 hown3; have HP := Lib.hid (And.intro hown3 (below_grown (B := w2.heap.size) (base := w2.heap.size) (HR.out.1.alloc _) (Nat.le_refl _) (by simp; omega) (ownsRow_ext HR.out.2 ((Ext.refl wr).alloc _)) hg3)); clear hown3 hg3 hat3)))
        have hy3 : y3 = j + 1 := by
          obtain ⟨a2, c2, e⟩ := own_n HP.out.1
          simp only [Value.slice.injEq] at e
          exact e.2.1
        subst hy3
        refine ⟨⟨j + 1, z3, x3, by omega, by go_num, rfl, Lib.hid ⟨HP.out.2, ?_⟩⟩, by simp [intOf]; omega⟩
        rw [HT.out, List.map_append]
        exact HP.out.1
    · have hji : ¬ (j : Int) < (M : Int) := fun e => hlt (Int.ofNat_lt.1 e)
      obtain rfl : j = M := by omega
      have HFF : Hid (∀ wx, Ext wr wx → Calls Tryz.prog 29 #[.int .i64 k, .slice a j c] wx fun e w' => e = .returned (.int .i64 V) ∧ wx = w') := Lib.hid (fun wx hx => HF.out _ _ (by
        have h1 := (SlC.of_owns HR.out.2).ext hx
        rw [List.take_of_length_le (by rw [List.length_map]; have := HVS.out.2; omega)] at h1
        exact h1))
      go_wp2_with (go_at_call 29; refine (HFF.out _ (Ext.refl _)).mono ?_; rintro e w' ⟨rfl, rfl⟩)
      go_ret2
      exact ⟨rfl, HX2.out.trans HR.out.1⟩
end Go.Proofs.YtdjnekcpeaadhaaGreat
