/-
  The laws of chapter 1 that hold the program against the reference: what each call returns.
  No condition but that numbers fit 64 bits.
-/
import Derived.Test.YtkfljmdgegjgjaaBvWalkD
import Derived.Test.YtkfljmdgegjgjaaRefWalkG
namespace Go.Proofs.Ytkfljmdgegjgjaa
open Go.RowKit

set_option maxHeartbeats 1000000 in
theorem alive_any (w : World) :
    Calls Try.prog 16 #[] w fun e w' => e = .returned (.bool true) ∧ Ext w w' := by
  have e1 : binv 3 2 127 1 = (-128, 2, true) := by decide +kernel
  have e2 : castv 2 7 (-1) = (65535, true) := by decide +kernel
  have e3 : binv 16 9 (-1) 0 = (0, 1, true) := by decide +kernel
  have e4 : wkr 2 200 = -56 := by decide +kernel
  have e5 : width 8 = 32 := by decide +kernel
  have i1 : I64 1 := by unfold I64; omega
  have i2 : I64 0 := by unfold I64; omega
  go_enter Try.func16, Try.ntmps16
  go_wp2_with (first
    | (go_at_call 18; refine (bvBin_any _ _ _ _ (by assumption) _).mono ?_; rintro e w1 ⟨rfl, hx⟩; (first | (with_reducible obtain ⟨t1, rfl⟩ := Ext.tok2 hx) | (obtain ⟨t1, rfl⟩ := Ext.tok hx)))
    | (go_at_call 20; refine (bvCast_any _ _ _ _).mono ?_; rintro e w1 ⟨rfl, hx⟩; (first | (with_reducible obtain ⟨t1, rfl⟩ := Ext.tok2 hx) | (obtain ⟨t1, rfl⟩ := Ext.tok hx)))
    | (go_at_call 25; refine (bvWrap_any _ _ _).mono ?_; rintro e w1 ⟨rfl, rfl⟩)
    | (go_at_call 23; refine (bvWidth_any _ _).mono ?_; rintro e w1 ⟨rfl, rfl⟩))
  all_goals go_ret
  all_goals exact ⟨rfl, (by repeat first | exact Ext.refl _ | assumption | refine Ext.drew ?_ | refine Ext.extBy ?_ _ | refine Ext.alloc ?_ _ | refine Ext.setCell ?_ (by simp; try omega) _ | (refine Ext.trans ?_ (by assumption)))⟩

theorem runv_eq (op k a : Int) : runv op k a = unv op k a := by
  cases hi : isk k a
  · simp [runv, unv, hi]
  · by_cases h1 : op = 1
    · subst h1
      by_cases hk : k = 1
      · subst hk; simp [runv, unv, hi, law_not, law_not1 hi]
      · simp [runv, unv, hi, hk, law_not]
    · by_cases h2 : op = 2
      · subst h2
        by_cases hk : k = 1 <;> simp [runv, unv, hi, hk]
      · simp [runv, unv, hi, h1, h2]

set_option maxHeartbeats 1000000 in
theorem BvBin_any (op k a b : Int) (wr : Bool) (ha : I64 a) (hb : I64 b) (w : World) :
    Calls Try.prog 3 #[.int .i64 op, .int .i64 k, .int .i64 a, .int .i64 b, .bool wr] w fun e w' => e = .returned (.bool true) ∧ Ext w w' := by
  have ha' : I64 (wkr k a) := wkr_I64 ha
  have hb' : I64 (wkr k b) := wkr_I64 hb
  cases wr
  all_goals
    go_enter Try.func3, Try.ntmps3
    go_wp2_with (first
    | (go_at_call 16; refine (alive_any _).mono ?_; rintro e w1 ⟨rfl, hx⟩; (first | (with_reducible obtain ⟨t1, rfl⟩ := Ext.tok2 hx) | (obtain ⟨t1, rfl⟩ := Ext.tok hx)))
    | (go_at_call 17; refine (refWrap_any _ _ _).mono ?_; rintro e w1 ⟨rfl, rfl⟩)
    | (go_at_call 18; refine (bvBin_any _ _ _ _ (by assumption) _).mono ?_; rintro e w1 ⟨rfl, hx⟩; (first | (with_reducible obtain ⟨t1, rfl⟩ := Ext.tok2 hx) | (obtain ⟨t1, rfl⟩ := Ext.tok hx)))
    | (go_at_call 19; refine (refBin_any _ _ _ _ (by assumption) (by assumption) _).mono ?_; rintro e w1 ⟨rfl, hx⟩; (first | (with_reducible obtain ⟨t1, rfl⟩ := Ext.tok2 hx) | (obtain ⟨t1, rfl⟩ := Ext.tok hx)))
    | (go_at_call 29; refine (bvUn_any _ _ _ _).mono ?_; rintro e w1 ⟨rfl, hx⟩; (first | (with_reducible obtain ⟨t1, rfl⟩ := Ext.tok2 hx) | (obtain ⟨t1, rfl⟩ := Ext.tok hx)))
    | (go_at_call 30; refine (refUn_any _ _ _ _).mono ?_; rintro e w1 ⟨rfl, hx⟩; (first | (with_reducible obtain ⟨t1, rfl⟩ := Ext.tok2 hx) | (obtain ⟨t1, rfl⟩ := Ext.tok hx)))
    | (go_at_call 20; refine (bvCast_any _ _ _ _).mono ?_; rintro e w1 ⟨rfl, hx⟩; (first | (with_reducible obtain ⟨t1, rfl⟩ := Ext.tok2 hx) | (obtain ⟨t1, rfl⟩ := Ext.tok hx)))
    | (go_at_call 21; refine (refCast_any _ _ _ _).mono ?_; rintro e w1 ⟨rfl, rfl⟩)
    | (go_at_call 25; refine (bvWrap_any _ _ _).mono ?_; rintro e w1 ⟨rfl, rfl⟩)
    | (go_at_call 22; refine (bvIs_any _ _ _).mono ?_; rintro e w1 ⟨rfl, rfl⟩)
    | (go_at_call 26; refine (refIs_any _ _ _).mono ?_; rintro e w1 ⟨rfl, rfl⟩)
    | (go_at_call 28; refine (bvZero_any _ _).mono ?_; rintro e w1 ⟨rfl, rfl⟩)
    | (go_at_call 27; refine (refWidth_any _ _).mono ?_; rintro e w1 ⟨rfl, rfl⟩)
    | (go_at_call 23; refine (bvWidth_any _ _).mono ?_; rintro e w1 ⟨rfl, rfl⟩))
    go_ret
    exact ⟨rfl, (by repeat first | exact Ext.refl _ | assumption | refine Ext.drew ?_ | refine Ext.extBy ?_ _ | refine Ext.alloc ?_ _ | refine Ext.setCell ?_ (by simp; try omega) _ | (refine Ext.trans ?_ (by assumption)))⟩

set_option maxHeartbeats 1000000 in
theorem BvCasts_any (f t a : Int) (wr : Bool) (ha : I64 a) (w : World) :
    Calls Try.prog 4 #[.int .i64 f, .int .i64 t, .int .i64 a, .bool wr] w fun e w' => e = .returned (.bool true) ∧ Ext w w' := by
  cases wr
  all_goals
    go_enter Try.func4, Try.ntmps4
    go_wp2_with (first
    | (go_at_call 16; refine (alive_any _).mono ?_; rintro e w1 ⟨rfl, hx⟩; (first | (with_reducible obtain ⟨t1, rfl⟩ := Ext.tok2 hx) | (obtain ⟨t1, rfl⟩ := Ext.tok hx)))
    | (go_at_call 17; refine (refWrap_any _ _ _).mono ?_; rintro e w1 ⟨rfl, rfl⟩)
    | (go_at_call 18; refine (bvBin_any _ _ _ _ (by assumption) _).mono ?_; rintro e w1 ⟨rfl, hx⟩; (first | (with_reducible obtain ⟨t1, rfl⟩ := Ext.tok2 hx) | (obtain ⟨t1, rfl⟩ := Ext.tok hx)))
    | (go_at_call 19; refine (refBin_any _ _ _ _ (by assumption) (by assumption) _).mono ?_; rintro e w1 ⟨rfl, hx⟩; (first | (with_reducible obtain ⟨t1, rfl⟩ := Ext.tok2 hx) | (obtain ⟨t1, rfl⟩ := Ext.tok hx)))
    | (go_at_call 29; refine (bvUn_any _ _ _ _).mono ?_; rintro e w1 ⟨rfl, hx⟩; (first | (with_reducible obtain ⟨t1, rfl⟩ := Ext.tok2 hx) | (obtain ⟨t1, rfl⟩ := Ext.tok hx)))
    | (go_at_call 30; refine (refUn_any _ _ _ _).mono ?_; rintro e w1 ⟨rfl, hx⟩; (first | (with_reducible obtain ⟨t1, rfl⟩ := Ext.tok2 hx) | (obtain ⟨t1, rfl⟩ := Ext.tok hx)))
    | (go_at_call 20; refine (bvCast_any _ _ _ _).mono ?_; rintro e w1 ⟨rfl, hx⟩; (first | (with_reducible obtain ⟨t1, rfl⟩ := Ext.tok2 hx) | (obtain ⟨t1, rfl⟩ := Ext.tok hx)))
    | (go_at_call 21; refine (refCast_any _ _ _ _).mono ?_; rintro e w1 ⟨rfl, rfl⟩)
    | (go_at_call 25; refine (bvWrap_any _ _ _).mono ?_; rintro e w1 ⟨rfl, rfl⟩)
    | (go_at_call 22; refine (bvIs_any _ _ _).mono ?_; rintro e w1 ⟨rfl, rfl⟩)
    | (go_at_call 26; refine (refIs_any _ _ _).mono ?_; rintro e w1 ⟨rfl, rfl⟩)
    | (go_at_call 28; refine (bvZero_any _ _).mono ?_; rintro e w1 ⟨rfl, rfl⟩)
    | (go_at_call 27; refine (refWidth_any _ _).mono ?_; rintro e w1 ⟨rfl, rfl⟩)
    | (go_at_call 23; refine (bvWidth_any _ _).mono ?_; rintro e w1 ⟨rfl, rfl⟩))
    go_ret
    exact ⟨rfl, (by repeat first | exact Ext.refl _ | assumption | refine Ext.drew ?_ | refine Ext.extBy ?_ _ | refine Ext.alloc ?_ _ | refine Ext.setCell ?_ (by simp; try omega) _ | (refine Ext.trans ?_ (by assumption)))⟩

set_option maxHeartbeats 1000000 in
theorem BvWraps_any (k n : Int) (w : World) :
    Calls Try.prog 11 #[.int .i64 k, .int .i64 n] w fun e w' => e = .returned (.bool true) ∧ Ext w w' := by
  go_enter Try.func11, Try.ntmps11
  go_wp2_with (first
    | (go_at_call 16; refine (alive_any _).mono ?_; rintro e w1 ⟨rfl, hx⟩; (first | (with_reducible obtain ⟨t1, rfl⟩ := Ext.tok2 hx) | (obtain ⟨t1, rfl⟩ := Ext.tok hx)))
    | (go_at_call 17; refine (refWrap_any _ _ _).mono ?_; rintro e w1 ⟨rfl, rfl⟩)
    | (go_at_call 18; refine (bvBin_any _ _ _ _ (by assumption) _).mono ?_; rintro e w1 ⟨rfl, hx⟩; (first | (with_reducible obtain ⟨t1, rfl⟩ := Ext.tok2 hx) | (obtain ⟨t1, rfl⟩ := Ext.tok hx)))
    | (go_at_call 19; refine (refBin_any _ _ _ _ (by assumption) (by assumption) _).mono ?_; rintro e w1 ⟨rfl, hx⟩; (first | (with_reducible obtain ⟨t1, rfl⟩ := Ext.tok2 hx) | (obtain ⟨t1, rfl⟩ := Ext.tok hx)))
    | (go_at_call 29; refine (bvUn_any _ _ _ _).mono ?_; rintro e w1 ⟨rfl, hx⟩; (first | (with_reducible obtain ⟨t1, rfl⟩ := Ext.tok2 hx) | (obtain ⟨t1, rfl⟩ := Ext.tok hx)))
    | (go_at_call 30; refine (refUn_any _ _ _ _).mono ?_; rintro e w1 ⟨rfl, hx⟩; (first | (with_reducible obtain ⟨t1, rfl⟩ := Ext.tok2 hx) | (obtain ⟨t1, rfl⟩ := Ext.tok hx)))
    | (go_at_call 20; refine (bvCast_any _ _ _ _).mono ?_; rintro e w1 ⟨rfl, hx⟩; (first | (with_reducible obtain ⟨t1, rfl⟩ := Ext.tok2 hx) | (obtain ⟨t1, rfl⟩ := Ext.tok hx)))
    | (go_at_call 21; refine (refCast_any _ _ _ _).mono ?_; rintro e w1 ⟨rfl, rfl⟩)
    | (go_at_call 25; refine (bvWrap_any _ _ _).mono ?_; rintro e w1 ⟨rfl, rfl⟩)
    | (go_at_call 22; refine (bvIs_any _ _ _).mono ?_; rintro e w1 ⟨rfl, rfl⟩)
    | (go_at_call 26; refine (refIs_any _ _ _).mono ?_; rintro e w1 ⟨rfl, rfl⟩)
    | (go_at_call 28; refine (bvZero_any _ _).mono ?_; rintro e w1 ⟨rfl, rfl⟩)
    | (go_at_call 27; refine (refWidth_any _ _).mono ?_; rintro e w1 ⟨rfl, rfl⟩)
    | (go_at_call 23; refine (bvWidth_any _ _).mono ?_; rintro e w1 ⟨rfl, rfl⟩))
  go_ret
  exact ⟨rfl, (by repeat first | exact Ext.refl _ | assumption | refine Ext.drew ?_ | refine Ext.extBy ?_ _ | refine Ext.alloc ?_ _ | refine Ext.setCell ?_ (by simp; try omega) _ | (refine Ext.trans ?_ (by assumption)))⟩

set_option maxHeartbeats 1000000 in
theorem BvUn_any (op k a : Int) (wr : Bool) (w : World) :
    Calls Try.prog 12 #[.int .i64 op, .int .i64 k, .int .i64 a, .bool wr] w fun e w' => e = .returned (.bool true) ∧ Ext w w' := by
  have hr := runv_eq
  cases wr
  all_goals
    go_enter Try.func12, Try.ntmps12
    go_wp2_with (first
    | (go_at_call 16; refine (alive_any _).mono ?_; rintro e w1 ⟨rfl, hx⟩; (first | (with_reducible obtain ⟨t1, rfl⟩ := Ext.tok2 hx) | (obtain ⟨t1, rfl⟩ := Ext.tok hx)))
    | (go_at_call 17; refine (refWrap_any _ _ _).mono ?_; rintro e w1 ⟨rfl, rfl⟩)
    | (go_at_call 18; refine (bvBin_any _ _ _ _ (by assumption) _).mono ?_; rintro e w1 ⟨rfl, hx⟩; (first | (with_reducible obtain ⟨t1, rfl⟩ := Ext.tok2 hx) | (obtain ⟨t1, rfl⟩ := Ext.tok hx)))
    | (go_at_call 19; refine (refBin_any _ _ _ _ (by assumption) (by assumption) _).mono ?_; rintro e w1 ⟨rfl, hx⟩; (first | (with_reducible obtain ⟨t1, rfl⟩ := Ext.tok2 hx) | (obtain ⟨t1, rfl⟩ := Ext.tok hx)))
    | (go_at_call 29; refine (bvUn_any _ _ _ _).mono ?_; rintro e w1 ⟨rfl, hx⟩; (first | (with_reducible obtain ⟨t1, rfl⟩ := Ext.tok2 hx) | (obtain ⟨t1, rfl⟩ := Ext.tok hx)))
    | (go_at_call 30; refine (refUn_any _ _ _ _).mono ?_; rintro e w1 ⟨rfl, hx⟩; (first | (with_reducible obtain ⟨t1, rfl⟩ := Ext.tok2 hx) | (obtain ⟨t1, rfl⟩ := Ext.tok hx)))
    | (go_at_call 20; refine (bvCast_any _ _ _ _).mono ?_; rintro e w1 ⟨rfl, hx⟩; (first | (with_reducible obtain ⟨t1, rfl⟩ := Ext.tok2 hx) | (obtain ⟨t1, rfl⟩ := Ext.tok hx)))
    | (go_at_call 21; refine (refCast_any _ _ _ _).mono ?_; rintro e w1 ⟨rfl, rfl⟩)
    | (go_at_call 25; refine (bvWrap_any _ _ _).mono ?_; rintro e w1 ⟨rfl, rfl⟩)
    | (go_at_call 22; refine (bvIs_any _ _ _).mono ?_; rintro e w1 ⟨rfl, rfl⟩)
    | (go_at_call 26; refine (refIs_any _ _ _).mono ?_; rintro e w1 ⟨rfl, rfl⟩)
    | (go_at_call 28; refine (bvZero_any _ _).mono ?_; rintro e w1 ⟨rfl, rfl⟩)
    | (go_at_call 27; refine (refWidth_any _ _).mono ?_; rintro e w1 ⟨rfl, rfl⟩)
    | (go_at_call 23; refine (bvWidth_any _ _).mono ?_; rintro e w1 ⟨rfl, rfl⟩))
    go_ret
    exact ⟨rfl, (by repeat first | exact Ext.refl _ | assumption | refine Ext.drew ?_ | refine Ext.extBy ?_ _ | refine Ext.alloc ?_ _ | refine Ext.setCell ?_ (by simp; try omega) _ | (refine Ext.trans ?_ (by assumption)))⟩
end Go.Proofs.Ytkfljmdgegjgjaa
