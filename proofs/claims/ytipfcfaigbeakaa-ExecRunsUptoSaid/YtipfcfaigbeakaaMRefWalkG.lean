/-
  What the reference's Bin and Cast do: the same as the program's.
  No condition but that numbers fit 64 bits.
-/
import Derived.Test.YtipfcfaigbeakaaJRef
import Derived.Test.YtipfcfaigbeakaaMRefWalkF
import Derived.Test.YtipfcfaigbeakaaMBvWalkC
namespace Go.Proofs.Ytipfcfaigbeakaa
open Go.RowKit
set_option maxRecDepth 100000

theorem isk_wid {k a : Int} (h : isk k a = true) : 0 < wid k := by
  have h : decide (0 < width k) = true := by simp only [isk, Bool.and_eq_true] at h; exact h.1
  have := width_wid k
  simp at h; omega

theorem refCast_any (f t a : Int) (w : World) :
    Calls Try.prog 62 #[.int .i64 f, .int .i64 t, .int .i64 a] w fun e w' => e = .returned (.tuple #[.int .i64 (castv f t a).1, .bool (castv f t a).2]) ∧ w = w' := by
  cases hi : isk f a
  all_goals
    go_enter Try.func62, Try.ntmps62
    go_wp2_with (first | (go_at_call 92; refine (refTruth_any _ _).mono ?_; rintro e w1 ⟨rfl, rfl⟩) | (go_at_call 45; refine (refIs_any _ _ _).mono ?_; rintro e w1 ⟨rfl, rfl⟩) | (go_at_call 44; refine (refWidth_any _ _).mono ?_; rintro e w1 ⟨rfl, rfl⟩) | (go_at_call 76; refine (refWrap_any _ _ _).mono ?_; rintro e w1 ⟨rfl, rfl⟩))
  all_goals go_ret2
  all_goals refine ⟨?_, rfl⟩
  all_goals simp_all [castv]

set_option maxRecDepth 100000 in
set_option maxHeartbeats 1000000 in
theorem refBin_no1 (k a b : Int) (op : Int) (h1 : isk k a = false) (w : World) :
    Calls Try.prog 61 #[.int .i64 op, .int .i64 k, .int .i64 a, .int .i64 b] w fun e w' => e = .returned (.tuple #[.int .i64 (0), .int .i64 (0), .bool false]) ∧ Ext w w' := by
  go_enter Try.func61, Try.ntmps61
  go_wp2_with (first
    | (go_at_call 45; refine (refIs_any _ _ _).mono ?_; rintro e w1 ⟨rfl, rfl⟩))
  go_ret3
  exact ⟨rfl, (by repeat first | exact Ext.refl _ | assumption | refine Ext.drew ?_ | refine Ext.drewN ?_ _ | refine Ext.extBy ?_ _ | refine Ext.alloc ?_ _ | refine Ext.setCell ?_ (by simp; try omega) _ | (refine Ext.trans ?_ (by assumption)))⟩

set_option maxRecDepth 100000 in
set_option maxHeartbeats 1000000 in
theorem refBin_no2 (k a b : Int) (op : Int) (h1 : isk k a = true) (h2 : isk k b = false) (w : World) :
    Calls Try.prog 61 #[.int .i64 op, .int .i64 k, .int .i64 a, .int .i64 b] w fun e w' => e = .returned (.tuple #[.int .i64 (0), .int .i64 (0), .bool false]) ∧ Ext w w' := by
  go_enter Try.func61, Try.ntmps61
  go_wp2_with (first
    | (go_at_call 45; refine (refIs_any _ _ _).mono ?_; rintro e w1 ⟨rfl, rfl⟩))
  go_ret3
  exact ⟨rfl, (by repeat first | exact Ext.refl _ | assumption | refine Ext.drew ?_ | refine Ext.drewN ?_ _ | refine Ext.extBy ?_ _ | refine Ext.alloc ?_ _ | refine Ext.setCell ?_ (by simp; try omega) _ | (refine Ext.trans ?_ (by assumption)))⟩

set_option maxRecDepth 100000 in
set_option maxHeartbeats 1000000 in
theorem refBin_noB (a b : Int) (op : Int) (h1 : isk 1 a = true) (h2 : isk 1 b = true) (n8 : (op == 8) = false) (n9 : (op == 9) = false) (n10 : (op == 10) = false) (n11 : (op == 11) = false) (n14 : (op == 14) = false) (n15 : (op == 15) = false) (w : World) :
    Calls Try.prog 61 #[.int .i64 op, .int .i64 1, .int .i64 a, .int .i64 b] w fun e w' => e = .returned (.tuple #[.int .i64 (0), .int .i64 (0), .bool false]) ∧ Ext w w' := by
  go_enter Try.func61, Try.ntmps61
  go_wp2_with (first
    | (go_at_call 45; refine (refIs_any _ _ _).mono ?_; rintro e w1 ⟨rfl, rfl⟩))
  go_ret3
  exact ⟨rfl, (by repeat first | exact Ext.refl _ | assumption | refine Ext.drew ?_ | refine Ext.drewN ?_ _ | refine Ext.extBy ?_ _ | refine Ext.alloc ?_ _ | refine Ext.setCell ?_ (by simp; try omega) _ | (refine Ext.trans ?_ (by assumption)))⟩

set_option maxRecDepth 100000 in
set_option maxHeartbeats 1000000 in
theorem refBin_noK (k a b : Int) (op : Int) (hk : (k == 1) = false) (h1 : isk k a = true) (h2 : isk k b = true) (n3 : (op == 3) = false) (n4 : (op == 4) = false) (n5 : (op == 5) = false) (n6 : (op == 6) = false) (n7 : (op == 7) = false) (n8 : (op == 8) = false) (n9 : (op == 9) = false) (n10 : (op == 10) = false) (n12 : (op == 12) = false) (n13 : (op == 13) = false) (n14 : (op == 14) = false) (n15 : (op == 15) = false) (n16 : (op == 16) = false) (n17 : (op == 17) = false) (n18 : (op == 18) = false) (n19 : (op == 19) = false) (w : World) :
    Calls Try.prog 61 #[.int .i64 op, .int .i64 k, .int .i64 a, .int .i64 b] w fun e w' => e = .returned (.tuple #[.int .i64 (0), .int .i64 (0), .bool false]) ∧ Ext w w' := by
  go_enter Try.func61, Try.ntmps61
  go_wp2_with (first
    | (go_at_call 45; refine (refIs_any _ _ _).mono ?_; rintro e w1 ⟨rfl, rfl⟩))
  go_ret3
  exact ⟨rfl, (by repeat first | exact Ext.refl _ | assumption | refine Ext.drew ?_ | refine Ext.drewN ?_ _ | refine Ext.extBy ?_ _ | refine Ext.alloc ?_ _ | refine Ext.setCell ?_ (by simp; try omega) _ | (refine Ext.trans ?_ (by assumption)))⟩

set_option maxRecDepth 100000 in
set_option maxHeartbeats 1000000 in
theorem refBin_8b (a b : Int) (h1 : isk 1 a = true) (h2 : isk 1 b = true) (w : World) :
    Calls Try.prog 61 #[.int .i64 8, .int .i64 1, .int .i64 a, .int .i64 b] w fun e w' => e = .returned (.tuple #[.int .i64 (wkr 1 (bits .and .i64 a b)), .int .i64 (1), .bool true]) ∧ Ext w w' := by
  have hpos := isk_wid h1
  go_enter Try.func61, Try.ntmps61
  go_wp2_with (first
    | (go_at_call 45; refine (refIs_any _ _ _).mono ?_; rintro e w1 ⟨rfl, rfl⟩)
    | (go_at_call 91; refine (refBitwise_and _ _ _ (by assumption) _).mono ?_; rintro e w1 ⟨rfl, hx⟩; obtain ⟨t1, rfl⟩ := hx.tok))
  go_ret3
  exact ⟨by rw [← law_and]; rfl, (by repeat first | exact Ext.refl _ | assumption | refine Ext.drew ?_ | refine Ext.drewN ?_ _ | refine Ext.extBy ?_ _ | refine Ext.alloc ?_ _ | refine Ext.setCell ?_ (by simp; try omega) _ | (refine Ext.trans ?_ (by assumption)))⟩

set_option maxRecDepth 100000 in
set_option maxHeartbeats 1000000 in
theorem refBin_8k (k a b : Int) (hk : (k == 1) = false) (h1 : isk k a = true) (h2 : isk k b = true) (w : World) :
    Calls Try.prog 61 #[.int .i64 8, .int .i64 k, .int .i64 a, .int .i64 b] w fun e w' => e = .returned (.tuple #[.int .i64 (wkr k (bits .and .i64 a b)), .int .i64 (k), .bool true]) ∧ Ext w w' := by
  have hpos := isk_wid h1
  go_enter Try.func61, Try.ntmps61
  go_wp2_with (first
    | (go_at_call 45; refine (refIs_any _ _ _).mono ?_; rintro e w1 ⟨rfl, rfl⟩)
    | (go_at_call 91; refine (refBitwise_and _ _ _ (by assumption) _).mono ?_; rintro e w1 ⟨rfl, hx⟩; obtain ⟨t1, rfl⟩ := hx.tok))
  go_ret3
  exact ⟨by rw [← law_and]; rfl, (by repeat first | exact Ext.refl _ | assumption | refine Ext.drew ?_ | refine Ext.drewN ?_ _ | refine Ext.extBy ?_ _ | refine Ext.alloc ?_ _ | refine Ext.setCell ?_ (by simp; try omega) _ | (refine Ext.trans ?_ (by assumption)))⟩

set_option maxRecDepth 100000 in
set_option maxHeartbeats 1000000 in
theorem refBin_9b (a b : Int) (h1 : isk 1 a = true) (h2 : isk 1 b = true) (w : World) :
    Calls Try.prog 61 #[.int .i64 9, .int .i64 1, .int .i64 a, .int .i64 b] w fun e w' => e = .returned (.tuple #[.int .i64 (wkr 1 (bits .or .i64 a b)), .int .i64 (1), .bool true]) ∧ Ext w w' := by
  have hpos := isk_wid h1
  go_enter Try.func61, Try.ntmps61
  go_wp2_with (first
    | (go_at_call 45; refine (refIs_any _ _ _).mono ?_; rintro e w1 ⟨rfl, rfl⟩)
    | (go_at_call 91; refine (refBitwise_or _ _ _ (by assumption) _).mono ?_; rintro e w1 ⟨rfl, hx⟩; obtain ⟨t1, rfl⟩ := hx.tok))
  go_ret3
  exact ⟨by rw [← law_or]; rfl, (by repeat first | exact Ext.refl _ | assumption | refine Ext.drew ?_ | refine Ext.drewN ?_ _ | refine Ext.extBy ?_ _ | refine Ext.alloc ?_ _ | refine Ext.setCell ?_ (by simp; try omega) _ | (refine Ext.trans ?_ (by assumption)))⟩

set_option maxRecDepth 100000 in
set_option maxHeartbeats 1000000 in
theorem refBin_9k (k a b : Int) (hk : (k == 1) = false) (h1 : isk k a = true) (h2 : isk k b = true) (w : World) :
    Calls Try.prog 61 #[.int .i64 9, .int .i64 k, .int .i64 a, .int .i64 b] w fun e w' => e = .returned (.tuple #[.int .i64 (wkr k (bits .or .i64 a b)), .int .i64 (k), .bool true]) ∧ Ext w w' := by
  have hpos := isk_wid h1
  go_enter Try.func61, Try.ntmps61
  go_wp2_with (first
    | (go_at_call 45; refine (refIs_any _ _ _).mono ?_; rintro e w1 ⟨rfl, rfl⟩)
    | (go_at_call 91; refine (refBitwise_or _ _ _ (by assumption) _).mono ?_; rintro e w1 ⟨rfl, hx⟩; obtain ⟨t1, rfl⟩ := hx.tok))
  go_ret3
  exact ⟨by rw [← law_or]; rfl, (by repeat first | exact Ext.refl _ | assumption | refine Ext.drew ?_ | refine Ext.drewN ?_ _ | refine Ext.extBy ?_ _ | refine Ext.alloc ?_ _ | refine Ext.setCell ?_ (by simp; try omega) _ | (refine Ext.trans ?_ (by assumption)))⟩

set_option maxRecDepth 100000 in
set_option maxHeartbeats 1000000 in
theorem refBin_10b (a b : Int) (h1 : isk 1 a = true) (h2 : isk 1 b = true) (w : World) :
    Calls Try.prog 61 #[.int .i64 10, .int .i64 1, .int .i64 a, .int .i64 b] w fun e w' => e = .returned (.tuple #[.int .i64 (wkr 1 (bits .xor .i64 a b)), .int .i64 (1), .bool true]) ∧ Ext w w' := by
  have hpos := isk_wid h1
  go_enter Try.func61, Try.ntmps61
  go_wp2_with (first
    | (go_at_call 45; refine (refIs_any _ _ _).mono ?_; rintro e w1 ⟨rfl, rfl⟩)
    | (go_at_call 91; refine (refBitwise_xor _ _ _ (by assumption) _).mono ?_; rintro e w1 ⟨rfl, hx⟩; obtain ⟨t1, rfl⟩ := hx.tok))
  go_ret3
  exact ⟨by rw [← law_xor]; rfl, (by repeat first | exact Ext.refl _ | assumption | refine Ext.drew ?_ | refine Ext.drewN ?_ _ | refine Ext.extBy ?_ _ | refine Ext.alloc ?_ _ | refine Ext.setCell ?_ (by simp; try omega) _ | (refine Ext.trans ?_ (by assumption)))⟩

set_option maxRecDepth 100000 in
set_option maxHeartbeats 1000000 in
theorem refBin_10k (k a b : Int) (hk : (k == 1) = false) (h1 : isk k a = true) (h2 : isk k b = true) (w : World) :
    Calls Try.prog 61 #[.int .i64 10, .int .i64 k, .int .i64 a, .int .i64 b] w fun e w' => e = .returned (.tuple #[.int .i64 (wkr k (bits .xor .i64 a b)), .int .i64 (k), .bool true]) ∧ Ext w w' := by
  have hpos := isk_wid h1
  go_enter Try.func61, Try.ntmps61
  go_wp2_with (first
    | (go_at_call 45; refine (refIs_any _ _ _).mono ?_; rintro e w1 ⟨rfl, rfl⟩)
    | (go_at_call 91; refine (refBitwise_xor _ _ _ (by assumption) _).mono ?_; rintro e w1 ⟨rfl, hx⟩; obtain ⟨t1, rfl⟩ := hx.tok))
  go_ret3
  exact ⟨by rw [← law_xor]; rfl, (by repeat first | exact Ext.refl _ | assumption | refine Ext.drew ?_ | refine Ext.drewN ?_ _ | refine Ext.extBy ?_ _ | refine Ext.alloc ?_ _ | refine Ext.setCell ?_ (by simp; try omega) _ | (refine Ext.trans ?_ (by assumption)))⟩

set_option maxRecDepth 100000 in
set_option maxHeartbeats 1000000 in
theorem refBin_11b (a b : Int) (h1 : isk 1 a = true) (h2 : isk 1 b = true) (w : World) :
    Calls Try.prog 61 #[.int .i64 11, .int .i64 1, .int .i64 a, .int .i64 b] w fun e w' => e = .returned (.tuple #[.int .i64 (tru (a == 0 || b != 0)), .int .i64 1, .bool true]) ∧ Ext w w' := by
  have hb : a = 0 ∨ a = 1 := isk_one h1
  have hb2 : b = 0 ∨ b = 1 := isk_one h2
  rcases hb with rfl | rfl <;> rcases hb2 with rfl | rfl
  all_goals
    go_enter Try.func61, Try.ntmps61
    go_wp2_with (first
      | (go_at_call 45; refine (refIs_any _ _ _).mono ?_; rintro e w1 ⟨rfl, rfl⟩)
      | (go_at_call 92; refine (refTruth_any _ _).mono ?_; rintro e w1 ⟨rfl, rfl⟩))
    go_ret3
    exact ⟨rfl, (by repeat first | exact Ext.refl _ | assumption | refine Ext.drew ?_ | refine Ext.drewN ?_ _ | refine Ext.extBy ?_ _ | refine Ext.alloc ?_ _ | refine Ext.setCell ?_ (by simp; try omega) _ | (refine Ext.trans ?_ (by assumption)))⟩

set_option maxRecDepth 100000 in
set_option maxHeartbeats 1000000 in
theorem refBin_14b (a b : Int) (h1 : isk 1 a = true) (h2 : isk 1 b = true) (w : World) :
    Calls Try.prog 61 #[.int .i64 14, .int .i64 1, .int .i64 a, .int .i64 b] w fun e w' => e = .returned (.tuple #[.int .i64 (tru (a == b)), .int .i64 (1), .bool true]) ∧ Ext w w' := by
  go_enter Try.func61, Try.ntmps61
  go_wp2_with (first
    | (go_at_call 45; refine (refIs_any _ _ _).mono ?_; rintro e w1 ⟨rfl, rfl⟩)
    | (go_at_call 92; refine (refTruth_any _ _).mono ?_; rintro e w1 ⟨rfl, rfl⟩))
  go_ret3
  exact ⟨rfl, (by repeat first | exact Ext.refl _ | assumption | refine Ext.drew ?_ | refine Ext.drewN ?_ _ | refine Ext.extBy ?_ _ | refine Ext.alloc ?_ _ | refine Ext.setCell ?_ (by simp; try omega) _ | (refine Ext.trans ?_ (by assumption)))⟩

set_option maxRecDepth 100000 in
set_option maxHeartbeats 1000000 in
theorem refBin_14k (k a b : Int) (hk : (k == 1) = false) (h1 : isk k a = true) (h2 : isk k b = true) (w : World) :
    Calls Try.prog 61 #[.int .i64 14, .int .i64 k, .int .i64 a, .int .i64 b] w fun e w' => e = .returned (.tuple #[.int .i64 (tru (a == b)), .int .i64 (1), .bool true]) ∧ Ext w w' := by
  go_enter Try.func61, Try.ntmps61
  go_wp2_with (first
    | (go_at_call 45; refine (refIs_any _ _ _).mono ?_; rintro e w1 ⟨rfl, rfl⟩)
    | (go_at_call 92; refine (refTruth_any _ _).mono ?_; rintro e w1 ⟨rfl, rfl⟩))
  go_ret3
  exact ⟨rfl, (by repeat first | exact Ext.refl _ | assumption | refine Ext.drew ?_ | refine Ext.drewN ?_ _ | refine Ext.extBy ?_ _ | refine Ext.alloc ?_ _ | refine Ext.setCell ?_ (by simp; try omega) _ | (refine Ext.trans ?_ (by assumption)))⟩

set_option maxRecDepth 100000 in
set_option maxHeartbeats 1000000 in
theorem refBin_15b (a b : Int) (h1 : isk 1 a = true) (h2 : isk 1 b = true) (w : World) :
    Calls Try.prog 61 #[.int .i64 15, .int .i64 1, .int .i64 a, .int .i64 b] w fun e w' => e = .returned (.tuple #[.int .i64 (tru (a != b)), .int .i64 (1), .bool true]) ∧ Ext w w' := by
  go_enter Try.func61, Try.ntmps61
  go_wp2_with (first
    | (go_at_call 45; refine (refIs_any _ _ _).mono ?_; rintro e w1 ⟨rfl, rfl⟩)
    | (go_at_call 92; refine (refTruth_any _ _).mono ?_; rintro e w1 ⟨rfl, rfl⟩))
  go_ret3
  exact ⟨rfl, (by repeat first | exact Ext.refl _ | assumption | refine Ext.drew ?_ | refine Ext.drewN ?_ _ | refine Ext.extBy ?_ _ | refine Ext.alloc ?_ _ | refine Ext.setCell ?_ (by simp; try omega) _ | (refine Ext.trans ?_ (by assumption)))⟩

set_option maxRecDepth 100000 in
set_option maxHeartbeats 1000000 in
theorem refBin_15k (k a b : Int) (hk : (k == 1) = false) (h1 : isk k a = true) (h2 : isk k b = true) (w : World) :
    Calls Try.prog 61 #[.int .i64 15, .int .i64 k, .int .i64 a, .int .i64 b] w fun e w' => e = .returned (.tuple #[.int .i64 (tru (a != b)), .int .i64 (1), .bool true]) ∧ Ext w w' := by
  go_enter Try.func61, Try.ntmps61
  go_wp2_with (first
    | (go_at_call 45; refine (refIs_any _ _ _).mono ?_; rintro e w1 ⟨rfl, rfl⟩)
    | (go_at_call 92; refine (refTruth_any _ _).mono ?_; rintro e w1 ⟨rfl, rfl⟩))
  go_ret3
  exact ⟨rfl, (by repeat first | exact Ext.refl _ | assumption | refine Ext.drew ?_ | refine Ext.drewN ?_ _ | refine Ext.extBy ?_ _ | refine Ext.alloc ?_ _ | refine Ext.setCell ?_ (by simp; try omega) _ | (refine Ext.trans ?_ (by assumption)))⟩

set_option maxRecDepth 100000 in
set_option maxHeartbeats 1000000 in
theorem refBin_16k (k a b : Int) (hk : (k == 1) = false) (h1 : isk k a = true) (h2 : isk k b = true) (ha : I64 a) (hb : I64 b) (w : World) :
    Calls Try.prog 61 #[.int .i64 16, .int .i64 k, .int .i64 a, .int .i64 b] w fun e w' => e = .returned (.tuple #[.int .i64 (tru (blw k a b)), .int .i64 (1), .bool true]) ∧ Ext w w' := by
  go_enter Try.func61, Try.ntmps61
  go_wp2_with (first
    | (go_at_call 45; refine (refIs_any _ _ _).mono ?_; rintro e w1 ⟨rfl, rfl⟩)
    | (go_at_call 92; refine (refTruth_any _ _).mono ?_; rintro e w1 ⟨rfl, rfl⟩)
    | (go_at_call 95; refine (refBelow_any _ _ _ (by assumption) (by assumption) _).mono ?_; rintro e w1 ⟨rfl, rfl⟩))
  go_ret3
  exact ⟨rfl, (by repeat first | exact Ext.refl _ | assumption | refine Ext.drew ?_ | refine Ext.drewN ?_ _ | refine Ext.extBy ?_ _ | refine Ext.alloc ?_ _ | refine Ext.setCell ?_ (by simp; try omega) _ | (refine Ext.trans ?_ (by assumption)))⟩

set_option maxRecDepth 100000 in
set_option maxHeartbeats 1000000 in
theorem refBin_17k (k a b : Int) (hk : (k == 1) = false) (h1 : isk k a = true) (h2 : isk k b = true) (ha : I64 a) (hb : I64 b) (w : World) :
    Calls Try.prog 61 #[.int .i64 17, .int .i64 k, .int .i64 a, .int .i64 b] w fun e w' => e = .returned (.tuple #[.int .i64 (tru (!(blw k b a))), .int .i64 (1), .bool true]) ∧ Ext w w' := by
  go_enter Try.func61, Try.ntmps61
  go_wp2_with (first
    | (go_at_call 45; refine (refIs_any _ _ _).mono ?_; rintro e w1 ⟨rfl, rfl⟩)
    | (go_at_call 92; refine (refTruth_any _ _).mono ?_; rintro e w1 ⟨rfl, rfl⟩)
    | (go_at_call 95; refine (refBelow_any _ _ _ (by assumption) (by assumption) _).mono ?_; rintro e w1 ⟨rfl, rfl⟩))
  go_ret3
  exact ⟨rfl, (by repeat first | exact Ext.refl _ | assumption | refine Ext.drew ?_ | refine Ext.drewN ?_ _ | refine Ext.extBy ?_ _ | refine Ext.alloc ?_ _ | refine Ext.setCell ?_ (by simp; try omega) _ | (refine Ext.trans ?_ (by assumption)))⟩

set_option maxRecDepth 100000 in
set_option maxHeartbeats 1000000 in
theorem refBin_18k (k a b : Int) (hk : (k == 1) = false) (h1 : isk k a = true) (h2 : isk k b = true) (ha : I64 a) (hb : I64 b) (w : World) :
    Calls Try.prog 61 #[.int .i64 18, .int .i64 k, .int .i64 a, .int .i64 b] w fun e w' => e = .returned (.tuple #[.int .i64 (tru (blw k b a)), .int .i64 (1), .bool true]) ∧ Ext w w' := by
  go_enter Try.func61, Try.ntmps61
  go_wp2_with (first
    | (go_at_call 45; refine (refIs_any _ _ _).mono ?_; rintro e w1 ⟨rfl, rfl⟩)
    | (go_at_call 92; refine (refTruth_any _ _).mono ?_; rintro e w1 ⟨rfl, rfl⟩)
    | (go_at_call 95; refine (refBelow_any _ _ _ (by assumption) (by assumption) _).mono ?_; rintro e w1 ⟨rfl, rfl⟩))
  go_ret3
  exact ⟨rfl, (by repeat first | exact Ext.refl _ | assumption | refine Ext.drew ?_ | refine Ext.drewN ?_ _ | refine Ext.extBy ?_ _ | refine Ext.alloc ?_ _ | refine Ext.setCell ?_ (by simp; try omega) _ | (refine Ext.trans ?_ (by assumption)))⟩

set_option maxRecDepth 100000 in
set_option maxHeartbeats 1000000 in
theorem refBin_19k (k a b : Int) (hk : (k == 1) = false) (h1 : isk k a = true) (h2 : isk k b = true) (ha : I64 a) (hb : I64 b) (w : World) :
    Calls Try.prog 61 #[.int .i64 19, .int .i64 k, .int .i64 a, .int .i64 b] w fun e w' => e = .returned (.tuple #[.int .i64 (tru (!(blw k a b))), .int .i64 (1), .bool true]) ∧ Ext w w' := by
  go_enter Try.func61, Try.ntmps61
  go_wp2_with (first
    | (go_at_call 45; refine (refIs_any _ _ _).mono ?_; rintro e w1 ⟨rfl, rfl⟩)
    | (go_at_call 92; refine (refTruth_any _ _).mono ?_; rintro e w1 ⟨rfl, rfl⟩)
    | (go_at_call 95; refine (refBelow_any _ _ _ (by assumption) (by assumption) _).mono ?_; rintro e w1 ⟨rfl, rfl⟩))
  go_ret3
  exact ⟨rfl, (by repeat first | exact Ext.refl _ | assumption | refine Ext.drew ?_ | refine Ext.drewN ?_ _ | refine Ext.extBy ?_ _ | refine Ext.alloc ?_ _ | refine Ext.setCell ?_ (by simp; try omega) _ | (refine Ext.trans ?_ (by assumption)))⟩

set_option maxRecDepth 100000 in
set_option maxHeartbeats 1000000 in
theorem refBin_3k (k a b : Int) (hk : (k == 1) = false) (h1 : isk k a = true) (h2 : isk k b = true) (w : World) :
    Calls Try.prog 61 #[.int .i64 3, .int .i64 k, .int .i64 a, .int .i64 b] w fun e w' => e = .returned (.tuple #[.int .i64 (wkr k (wrap64 (a + b))), .int .i64 (k), .bool true]) ∧ Ext w w' := by
  go_enter Try.func61, Try.ntmps61
  go_wp2_with (first
    | (go_at_call 45; refine (refIs_any _ _ _).mono ?_; rintro e w1 ⟨rfl, rfl⟩)
    | (go_at_call 76; refine (refWrap_any _ _ _).mono ?_; rintro e w1 ⟨rfl, rfl⟩))
  go_ret3
  exact ⟨rfl, (by repeat first | exact Ext.refl _ | assumption | refine Ext.drew ?_ | refine Ext.drewN ?_ _ | refine Ext.extBy ?_ _ | refine Ext.alloc ?_ _ | refine Ext.setCell ?_ (by simp; try omega) _ | (refine Ext.trans ?_ (by assumption)))⟩

set_option maxRecDepth 100000 in
set_option maxHeartbeats 1000000 in
theorem refBin_4k (k a b : Int) (hk : (k == 1) = false) (h1 : isk k a = true) (h2 : isk k b = true) (w : World) :
    Calls Try.prog 61 #[.int .i64 4, .int .i64 k, .int .i64 a, .int .i64 b] w fun e w' => e = .returned (.tuple #[.int .i64 (wkr k (wrap64 (a - b))), .int .i64 (k), .bool true]) ∧ Ext w w' := by
  go_enter Try.func61, Try.ntmps61
  go_wp2_with (first
    | (go_at_call 45; refine (refIs_any _ _ _).mono ?_; rintro e w1 ⟨rfl, rfl⟩)
    | (go_at_call 76; refine (refWrap_any _ _ _).mono ?_; rintro e w1 ⟨rfl, rfl⟩))
  go_ret3
  exact ⟨rfl, (by repeat first | exact Ext.refl _ | assumption | refine Ext.drew ?_ | refine Ext.drewN ?_ _ | refine Ext.extBy ?_ _ | refine Ext.alloc ?_ _ | refine Ext.setCell ?_ (by simp; try omega) _ | (refine Ext.trans ?_ (by assumption)))⟩

set_option maxRecDepth 100000 in
set_option maxHeartbeats 1000000 in
theorem refBin_5k (k a b : Int) (hk : (k == 1) = false) (h1 : isk k a = true) (h2 : isk k b = true) (w : World) :
    Calls Try.prog 61 #[.int .i64 5, .int .i64 k, .int .i64 a, .int .i64 b] w fun e w' => e = .returned (.tuple #[.int .i64 (wkr k (wrap64 (a * b))), .int .i64 (k), .bool true]) ∧ Ext w w' := by
  go_enter Try.func61, Try.ntmps61
  go_wp2_with (first
    | (go_at_call 45; refine (refIs_any _ _ _).mono ?_; rintro e w1 ⟨rfl, rfl⟩)
    | (go_at_call 76; refine (refWrap_any _ _ _).mono ?_; rintro e w1 ⟨rfl, rfl⟩))
  go_ret3
  exact ⟨rfl, (by repeat first | exact Ext.refl _ | assumption | refine Ext.drew ?_ | refine Ext.drewN ?_ _ | refine Ext.extBy ?_ _ | refine Ext.alloc ?_ _ | refine Ext.setCell ?_ (by simp; try omega) _ | (refine Ext.trans ?_ (by assumption)))⟩

set_option maxRecDepth 100000 in
set_option maxHeartbeats 1000000 in
theorem refBin_6k (k a b : Int) (hk : (k == 1) = false) (h1 : isk k a = true) (h2 : isk k b = true) (hb : I64 b) (w : World) :
    Calls Try.prog 61 #[.int .i64 6, .int .i64 k, .int .i64 a, .int .i64 b] w fun e w' => e = .returned (.tuple #[.int .i64 (wkr k (divv k a b)), .int .i64 k, .bool true]) ∧ Ext w w' := by
  have hn : k ≠ 1 := by simpa using hk
  by_cases h0 : b = 0
  · subst h0
    have HV := Lib.hid (show divv k a 0 = 0 from rfl)
    go_enter Try.func61, Try.ntmps61
    go_wp2_with (first | (go_at_call 45; refine (refIs_any _ _ _).mono ?_; rintro e w1 ⟨rfl, rfl⟩) | (go_at_call 76; refine (refWrap_any _ _ _).mono ?_; rintro e w1 ⟨rfl, rfl⟩))
    go_ret3
    exact ⟨by rw [HV.out]; rfl, (by repeat first | exact Ext.refl _ | assumption | refine Ext.drew ?_ | refine Ext.drewN ?_ _ | refine Ext.extBy ?_ _ | refine Ext.alloc ?_ _ | refine Ext.setCell ?_ (by simp; try omega) _ | (refine Ext.trans ?_ (by assumption)))⟩
  have b0 : (b == 0) = false := by simpa using h0
  by_cases h9 : k = 9
  · subst h9
    have hbz : b % 18446744073709551616 ≠ 0 := by unfold I64 at hb; omega
    have e : divv 9 a b = wrap64 (a % 18446744073709551616 / (b % 18446744073709551616)) := by
      unfold divv; rw [if_neg h0, if_pos rfl]; exact law_div9 a b hbz
    have HV := Lib.hid e
    have HD := Lib.hid (fun (w : World) => refDivide_any a b hb h0 w)
    clear e hbz
    go_enter Try.func61, Try.ntmps61
    go_wp2_with (first | (go_at_call 45; refine (refIs_any _ _ _).mono ?_; rintro e w1 ⟨rfl, rfl⟩) | (go_at_call 76; refine (refWrap_any _ _ _).mono ?_; rintro e w1 ⟨rfl, rfl⟩) | (go_at_call 93; refine (HD.out _).mono ?_; rintro e w1 ⟨rfl, rfl⟩))
    go_ret3
    exact ⟨by rw [HV.out]; rfl, (by repeat first | exact Ext.refl _ | assumption | refine Ext.drew ?_ | refine Ext.drewN ?_ _ | refine Ext.extBy ?_ _ | refine Ext.alloc ?_ _ | refine Ext.setCell ?_ (by simp; try omega) _ | (refine Ext.trans ?_ (by assumption)))⟩
  have b9 : (k == 9) = false := by simpa using h9
  by_cases hm : b = -1
  · subst hm
    have HV := Lib.hid (show divv k a (-1) = wrap64 (-a) from by unfold divv; rw [if_neg h0, if_neg h9, if_pos rfl])
    go_enter Try.func61, Try.ntmps61
    go_wp2_with (first | (go_at_call 45; refine (refIs_any _ _ _).mono ?_; rintro e w1 ⟨rfl, rfl⟩) | (go_at_call 76; refine (refWrap_any _ _ _).mono ?_; rintro e w1 ⟨rfl, rfl⟩))
    go_ret3
    exact ⟨by rw [HV.out]; rfl, (by repeat first | exact Ext.refl _ | assumption | refine Ext.drew ?_ | refine Ext.drewN ?_ _ | refine Ext.extBy ?_ _ | refine Ext.alloc ?_ _ | refine Ext.setCell ?_ (by simp; try omega) _ | (refine Ext.trans ?_ (by assumption)))⟩
  · have bm : (b == -1) = false := by simpa using hm
    have HV := Lib.hid (show divv k a b = wrap64 (a.tdiv b) from by unfold divv; rw [if_neg h0, if_neg h9, if_neg hm])
    go_enter Try.func61, Try.ntmps61
    go_wp2_with (first | (go_at_call 45; refine (refIs_any _ _ _).mono ?_; rintro e w1 ⟨rfl, rfl⟩) | (go_at_call 76; refine (refWrap_any _ _ _).mono ?_; rintro e w1 ⟨rfl, rfl⟩))
    go_ret3
    exact ⟨by rw [HV.out]; rfl, (by repeat first | exact Ext.refl _ | assumption | refine Ext.drew ?_ | refine Ext.drewN ?_ _ | refine Ext.extBy ?_ _ | refine Ext.alloc ?_ _ | refine Ext.setCell ?_ (by simp; try omega) _ | (refine Ext.trans ?_ (by assumption)))⟩

set_option maxRecDepth 100000 in
set_option maxHeartbeats 1000000 in
theorem refBin_7k (k a b : Int) (hk : (k == 1) = false) (h1 : isk k a = true) (h2 : isk k b = true) (hb : I64 b) (w : World) :
    Calls Try.prog 61 #[.int .i64 7, .int .i64 k, .int .i64 a, .int .i64 b] w fun e w' => e = .returned (.tuple #[.int .i64 (wkr k (modv k a b)), .int .i64 k, .bool true]) ∧ Ext w w' := by
  have hn : k ≠ 1 := by simpa using hk
  by_cases h0 : b = 0
  · subst h0
    have HV := Lib.hid (show modv k a 0 = 0 from rfl)
    go_enter Try.func61, Try.ntmps61
    go_wp2_with (first | (go_at_call 45; refine (refIs_any _ _ _).mono ?_; rintro e w1 ⟨rfl, rfl⟩) | (go_at_call 76; refine (refWrap_any _ _ _).mono ?_; rintro e w1 ⟨rfl, rfl⟩))
    go_ret3
    exact ⟨by rw [HV.out]; rfl, (by repeat first | exact Ext.refl _ | assumption | refine Ext.drew ?_ | refine Ext.drewN ?_ _ | refine Ext.extBy ?_ _ | refine Ext.alloc ?_ _ | refine Ext.setCell ?_ (by simp; try omega) _ | (refine Ext.trans ?_ (by assumption)))⟩
  have b0 : (b == 0) = false := by simpa using h0
  by_cases h9 : k = 9
  · subst h9
    have hbz : b % 18446744073709551616 ≠ 0 := by unfold I64 at hb; omega
    have e : modv 9 a b = wrap64 (a % 18446744073709551616 % (b % 18446744073709551616)) := by
      unfold modv; rw [if_neg h0, if_pos rfl]; exact law_mod9 a b
    have HV := Lib.hid e
    have HD := Lib.hid (fun (w : World) => refDivide_any a b hb h0 w)
    clear e hbz
    go_enter Try.func61, Try.ntmps61
    go_wp2_with (first | (go_at_call 45; refine (refIs_any _ _ _).mono ?_; rintro e w1 ⟨rfl, rfl⟩) | (go_at_call 76; refine (refWrap_any _ _ _).mono ?_; rintro e w1 ⟨rfl, rfl⟩) | (go_at_call 93; refine (HD.out _).mono ?_; rintro e w1 ⟨rfl, rfl⟩))
    go_ret3
    exact ⟨by rw [HV.out]; rfl, (by repeat first | exact Ext.refl _ | assumption | refine Ext.drew ?_ | refine Ext.drewN ?_ _ | refine Ext.extBy ?_ _ | refine Ext.alloc ?_ _ | refine Ext.setCell ?_ (by simp; try omega) _ | (refine Ext.trans ?_ (by assumption)))⟩
  have b9 : (k == 9) = false := by simpa using h9
  by_cases hm : b = -1
  · subst hm
    have HV := Lib.hid (show modv k a (-1) = 0 from by unfold modv; rw [if_neg h0, if_neg h9, if_pos rfl])
    go_enter Try.func61, Try.ntmps61
    go_wp2_with (first | (go_at_call 45; refine (refIs_any _ _ _).mono ?_; rintro e w1 ⟨rfl, rfl⟩) | (go_at_call 76; refine (refWrap_any _ _ _).mono ?_; rintro e w1 ⟨rfl, rfl⟩))
    go_ret3
    exact ⟨by rw [HV.out]; rfl, (by repeat first | exact Ext.refl _ | assumption | refine Ext.drew ?_ | refine Ext.drewN ?_ _ | refine Ext.extBy ?_ _ | refine Ext.alloc ?_ _ | refine Ext.setCell ?_ (by simp; try omega) _ | (refine Ext.trans ?_ (by assumption)))⟩
  · have bm : (b == -1) = false := by simpa using hm
    have HV := Lib.hid (show modv k a b = a.tmod b from by unfold modv; rw [if_neg h0, if_neg h9, if_neg hm])
    go_enter Try.func61, Try.ntmps61
    go_wp2_with (first | (go_at_call 45; refine (refIs_any _ _ _).mono ?_; rintro e w1 ⟨rfl, rfl⟩) | (go_at_call 76; refine (refWrap_any _ _ _).mono ?_; rintro e w1 ⟨rfl, rfl⟩))
    go_ret3
    exact ⟨by rw [HV.out]; rfl, (by repeat first | exact Ext.refl _ | assumption | refine Ext.drew ?_ | refine Ext.drewN ?_ _ | refine Ext.extBy ?_ _ | refine Ext.alloc ?_ _ | refine Ext.setCell ?_ (by simp; try omega) _ | (refine Ext.trans ?_ (by assumption)))⟩

set_option maxRecDepth 100000 in
set_option maxHeartbeats 1000000 in
theorem refBin_12k (k a b : Int) (hk : (k == 1) = false) (h1 : isk k a = true) (h2 : isk k b = true) (w : World) :
    Calls Try.prog 61 #[.int .i64 12, .int .i64 k, .int .i64 a, .int .i64 b] w fun e w' => e = .returned (.tuple #[.int .i64 (wkr k (shlv k a k b)), .int .i64 (k), .bool true]) ∧ Ext w w' := by
  have hpos := isk_wid h1
  go_enter Try.func61, Try.ntmps61
  go_wp2_with (first
    | (go_at_call 45; refine (refIs_any _ _ _).mono ?_; rintro e w1 ⟨rfl, rfl⟩)
    | (go_at_call 94; refine (refMoved_shl _ _ _ hpos _).mono ?_; rintro e w1 ⟨rfl, hx⟩; obtain ⟨t1, rfl⟩ := hx.tok))
  go_ret3
  exact ⟨by rw [← law_shl]; rfl, (by repeat first | exact Ext.refl _ | assumption | refine Ext.drew ?_ | refine Ext.drewN ?_ _ | refine Ext.extBy ?_ _ | refine Ext.alloc ?_ _ | refine Ext.setCell ?_ (by simp; try omega) _ | (refine Ext.trans ?_ (by assumption)))⟩

set_option maxRecDepth 100000 in
set_option maxHeartbeats 1000000 in
theorem refBin_13k (k a b : Int) (hk : (k == 1) = false) (h1 : isk k a = true) (h2 : isk k b = true) (ha : I64 a) (w : World) :
    Calls Try.prog 61 #[.int .i64 13, .int .i64 k, .int .i64 a, .int .i64 b] w fun e w' => e = .returned (.tuple #[.int .i64 (wkr k (shrv k a k b)), .int .i64 k, .bool true]) ∧ Ext w w' := by
  have hpos := isk_wid h1
  cases hs : sgn k
  · have HV := Lib.hid (law_shr_u k a b hs)
    go_enter Try.func61, Try.ntmps61
    go_wp2_with (first | (go_at_call 45; refine (refIs_any _ _ _).mono ?_; rintro e w1 ⟨rfl, rfl⟩) | (go_at_call 94; refine (refMoved_shr _ _ _ hpos hs _).mono ?_; rintro e w1 ⟨rfl, hx⟩; obtain ⟨t1, rfl⟩ := hx.tok))
    go_ret3
    exact ⟨by rw [← HV.out]; rfl, (by repeat first | exact Ext.refl _ | assumption | refine Ext.drew ?_ | refine Ext.drewN ?_ _ | refine Ext.extBy ?_ _ | refine Ext.alloc ?_ _ | refine Ext.setCell ?_ (by simp; try omega) _ | (refine Ext.trans ?_ (by assumption)))⟩
  by_cases hn : a < 0
  · have e := law_shr_s k a b ha hs h1
    rw [if_pos hn] at e
    have HV := Lib.hid e
    clear e
    go_enter Try.func61, Try.ntmps61
    go_wp2_with (first | (go_at_call 45; refine (refIs_any _ _ _).mono ?_; rintro e w1 ⟨rfl, rfl⟩) | (go_at_call 94; refine (refMoved_sar _ _ _ hpos hs hn _).mono ?_; rintro e w1 ⟨rfl, hx⟩; obtain ⟨t1, rfl⟩ := hx.tok))
    go_ret3
    exact ⟨by rw [← HV.out]; rfl, (by repeat first | exact Ext.refl _ | assumption | refine Ext.drew ?_ | refine Ext.drewN ?_ _ | refine Ext.extBy ?_ _ | refine Ext.alloc ?_ _ | refine Ext.setCell ?_ (by simp; try omega) _ | (refine Ext.trans ?_ (by assumption)))⟩
  · have e := law_shr_s k a b ha hs h1
    rw [if_neg hn] at e
    have HV := Lib.hid e
    clear e
    have HF := Lib.hid (fun (w : World) => refMoved_spr k a b hpos hs hn w)
    go_enter Try.func61, Try.ntmps61
    go_wp2_with (first | (go_at_call 45; refine (refIs_any _ _ _).mono ?_; rintro e w1 ⟨rfl, rfl⟩) | (go_at_call 94; refine (HF.out _).mono ?_; rintro e w1 ⟨rfl, hx⟩; obtain ⟨t1, rfl⟩ := hx.tok))
    go_ret3
    exact ⟨by rw [← HV.out]; rfl, (by repeat first | exact Ext.refl _ | assumption | refine Ext.drew ?_ | refine Ext.drewN ?_ _ | refine Ext.extBy ?_ _ | refine Ext.alloc ?_ _ | refine Ext.setCell ?_ (by simp; try omega) _ | (refine Ext.trans ?_ (by assumption)))⟩


theorem refBin_any (op k a b : Int) (ha : I64 a) (hb : I64 b) (w : World) :
    Calls Try.prog 61 #[.int .i64 op, .int .i64 k, .int .i64 a, .int .i64 b] w fun e w' => e = .returned (.tuple #[.int .i64 (binv op k a b).1, .int .i64 (binv op k a b).2.1, .bool (binv op k a b).2.2]) ∧ Ext w w' := by
  cases h1 : isk k a
  · rw [binv_no (by simp [binOk, h1])]; exact refBin_no1 k a b op h1 w
  cases h2 : isk k b
  · rw [binv_no (by simp [binOk, h2])]; exact refBin_no2 k a b op h1 h2 w
  by_cases hk : k = 1
  · subst hk
    by_cases h : op = 8 ∨ op = 9 ∨ op = 10 ∨ op = 11 ∨ op = 14 ∨ op = 15
    · rcases h with rfl | rfl | rfl | rfl | rfl | rfl
      · rw [binv_yes (by first | (simp [binOk, h1, h2, fits_b, opOf, f31]; done) | (simp [binOk, h1, h2, fits_b, opOf, f11]; done))]; exact refBin_8b a b h1 h2 w
      · rw [binv_yes (by first | (simp [binOk, h1, h2, fits_b, opOf, f31]; done) | (simp [binOk, h1, h2, fits_b, opOf, f11]; done))]; exact refBin_9b a b h1 h2 w
      · rw [binv_yes (by first | (simp [binOk, h1, h2, fits_b, opOf, f31]; done) | (simp [binOk, h1, h2, fits_b, opOf, f11]; done))]; exact refBin_10b a b h1 h2 w
      · rw [binv_yes (by first | (simp [binOk, h1, h2, fits_b, opOf]; done) | (simp [binOk, h1, h2, fits_b, opOf, f11]; done))]; exact refBin_11b a b h1 h2 w
      · rw [binv_yes (by first | (simp [binOk, h1, h2, fits_b, opOf, f31]; done) | (simp [binOk, h1, h2, fits_b, opOf, f11]; done))]; exact refBin_14b a b h1 h2 w
      · rw [binv_yes (by first | (simp [binOk, h1, h2, fits_b, opOf, f31]; done) | (simp [binOk, h1, h2, fits_b, opOf, f11]; done))]; exact refBin_15b a b h1 h2 w
    · have hno : binOk op 1 a b = false := by
        by_cases h0 : op < 0
        · simp [binOk, Int.not_le.2 h0]
        by_cases h20 : 20 ≤ op
        · simp [binOk, opOf_big op.toNat (by omega), fits0]
        have h5 : op = 0 ∨ op = 1 ∨ op = 2 ∨ op = 3 ∨ op = 4 ∨ op = 5 ∨ op = 6 ∨ op = 7 ∨ op = 12 ∨ op = 13 ∨ op = 16 ∨ op = 17 ∨ op = 18 ∨ op = 19 := by omega
        rcases h5 with rfl | rfl | rfl | rfl | rfl | rfl | rfl | rfl | rfl | rfl | rfl | rfl | rfl | rfl <;> simp [binOk, fits_b, opOf, f21, f01]
      rw [binv_no hno]
      simp only [not_or] at h
      exact refBin_noB a b op h1 h2 (by simpa using h.1) (by simpa using h.2.1) (by simpa using h.2.2.1) (by simpa using h.2.2.2.1) (by simpa using h.2.2.2.2.1) (by simpa using h.2.2.2.2.2) w
  · have hk' : (k == 1) = false := by simpa using hk
    by_cases h : op = 3 ∨ op = 4 ∨ op = 5 ∨ op = 6 ∨ op = 7 ∨ op = 8 ∨ op = 9 ∨ op = 10 ∨ op = 12 ∨ op = 13 ∨ op = 14 ∨ op = 15 ∨ op = 16 ∨ op = 17 ∨ op = 18 ∨ op = 19
    · rcases h with rfl | rfl | rfl | rfl | rfl | rfl | rfl | rfl | rfl | rfl | rfl | rfl | rfl | rfl | rfl | rfl
      · rw [binv_yes (by first | (simp [binOk, h1, h2, fits_k hk', opOf, f22]; done) | (simp [binOk, h1, h2, fits_k hk', opOf, f32]; done))]; exact refBin_3k k a b hk' h1 h2 w
      · rw [binv_yes (by first | (simp [binOk, h1, h2, fits_k hk', opOf, f22]; done) | (simp [binOk, h1, h2, fits_k hk', opOf, f32]; done))]; exact refBin_4k k a b hk' h1 h2 w
      · rw [binv_yes (by first | (simp [binOk, h1, h2, fits_k hk', opOf, f22]; done) | (simp [binOk, h1, h2, fits_k hk', opOf, f32]; done))]; exact refBin_5k k a b hk' h1 h2 w
      · rw [binv_yes (by first | (simp [binOk, h1, h2, fits_k hk', opOf, f22]; done) | (simp [binOk, h1, h2, fits_k hk', opOf, f32]; done))]; exact refBin_6k k a b hk' h1 h2 hb w
      · rw [binv_yes (by first | (simp [binOk, h1, h2, fits_k hk', opOf, f22]; done) | (simp [binOk, h1, h2, fits_k hk', opOf, f32]; done))]; exact refBin_7k k a b hk' h1 h2 hb w
      · rw [binv_yes (by first | (simp [binOk, h1, h2, fits_k hk', opOf]; done) | (simp [binOk, h1, h2, fits_k hk', opOf, f32]; done))]; exact refBin_8k k a b hk' h1 h2 w
      · rw [binv_yes (by first | (simp [binOk, h1, h2, fits_k hk', opOf]; done) | (simp [binOk, h1, h2, fits_k hk', opOf, f32]; done))]; exact refBin_9k k a b hk' h1 h2 w
      · rw [binv_yes (by first | (simp [binOk, h1, h2, fits_k hk', opOf]; done) | (simp [binOk, h1, h2, fits_k hk', opOf, f32]; done))]; exact refBin_10k k a b hk' h1 h2 w
      · rw [binv_yes (by first | (simp [binOk, h1, h2, fits_k hk', opOf, f22]; done) | (simp [binOk, h1, h2, fits_k hk', opOf, f32]; done))]; exact refBin_12k k a b hk' h1 h2 w
      · rw [binv_yes (by first | (simp [binOk, h1, h2, fits_k hk', opOf, f22]; done) | (simp [binOk, h1, h2, fits_k hk', opOf, f32]; done))]; exact refBin_13k k a b hk' h1 h2 ha w
      · rw [binv_yes (by first | (simp [binOk, h1, h2, fits_k hk', opOf]; done) | (simp [binOk, h1, h2, fits_k hk', opOf, f32]; done))]; exact refBin_14k k a b hk' h1 h2 w
      · rw [binv_yes (by first | (simp [binOk, h1, h2, fits_k hk', opOf]; done) | (simp [binOk, h1, h2, fits_k hk', opOf, f32]; done))]; exact refBin_15k k a b hk' h1 h2 w
      · rw [binv_yes (by first | (simp [binOk, h1, h2, fits_k hk', opOf, f22]; done) | (simp [binOk, h1, h2, fits_k hk', opOf, f32]; done))]; exact refBin_16k k a b hk' h1 h2 ha hb w
      · rw [binv_yes (by first | (simp [binOk, h1, h2, fits_k hk', opOf, f22]; done) | (simp [binOk, h1, h2, fits_k hk', opOf, f32]; done))]; exact refBin_17k k a b hk' h1 h2 ha hb w
      · rw [binv_yes (by first | (simp [binOk, h1, h2, fits_k hk', opOf, f22]; done) | (simp [binOk, h1, h2, fits_k hk', opOf, f32]; done))]; exact refBin_18k k a b hk' h1 h2 ha hb w
      · rw [binv_yes (by first | (simp [binOk, h1, h2, fits_k hk', opOf, f22]; done) | (simp [binOk, h1, h2, fits_k hk', opOf, f32]; done))]; exact refBin_19k k a b hk' h1 h2 ha hb w
    · have hno : binOk op k a b = false := by
        by_cases h0 : op < 0
        · simp [binOk, Int.not_le.2 h0]
        by_cases h20 : 20 ≤ op
        · simp [binOk, opOf_big op.toNat (by omega), fits0]
        have h5 : op = 0 ∨ op = 1 ∨ op = 2 ∨ op = 11 := by omega
        rcases h5 with rfl | rfl | rfl | rfl <;> simp [binOk, fits_k hk', opOf, f12, f02]
      rw [binv_no hno]
      simp only [not_or] at h
      exact refBin_noK k a b op hk' h1 h2 (by simp; omega) (by simp; omega) (by simp; omega) (by simp; omega) (by simp; omega) (by simp; omega) (by simp; omega) (by simp; omega) (by simp; omega) (by simp; omega) (by simp; omega) (by simp; omega) (by simp; omega) (by simp; omega) (by simp; omega) (by simp; omega) w
end Go.Proofs.Ytipfcfaigbeakaa
