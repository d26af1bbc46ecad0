/-
  What the functions of package bv do: widths, wraps, the operations on two values.
  No condition.
-/
import Derived.Test.YtkfljmdgegjgjaaRows
import Derived.Test.YtkfljmdgegjgjaaKit
import Derived.Test.YtkfljmdgegjgjaaBvPlain
namespace Go.Proofs.Ytkfljmdgegjgjaa
open Go.RowKit

theorem bvWidth_any (k : Int) (w : World) :
    Calls Try.prog 23 #[.int .i64 k] w fun e w' => e = .returned (.int .i64 (width k)) ∧ w = w' := by
  go_enter Try.func23, Try.ntmps23
  go_wp2
  all_goals go_ret
  all_goals refine ⟨?_, rfl⟩
  all_goals simp_all [width]

theorem bvWrap_any (k n : Int) (w : World) :
    Calls Try.prog 25 #[.int .i64 k, .int .i64 n] w fun e w' => e = .returned (.int .i64 (wkr k n)) ∧ w = w' := by
  go_enter Try.func25, Try.ntmps25
  go_wp2
  all_goals go_ret
  all_goals refine ⟨?_, rfl⟩
  all_goals simp_all [wkr]

theorem bvIs_any (k n : Int) (w : World) :
    Calls Try.prog 22 #[.int .i64 k, .int .i64 n] w fun e w' => e = .returned (.bool (isk k n)) ∧ w = w' := by
  go_enter Try.func22, Try.ntmps22
  go_wp2_with (first | (go_at_call 23; refine (bvWidth_any _ _).mono ?_; rintro e w' ⟨rfl, rfl⟩) | (go_at_call 25; refine (bvWrap_any _ _ _).mono ?_; rintro e w' ⟨rfl, rfl⟩))
  all_goals go_ret
  all_goals refine ⟨?_, rfl⟩
  · simp_all [isk]
  · have h : width k ≤ 0 := by assumption
    simp [isk, Int.not_lt.2 h]

theorem bvZero_any (k : Int) (w : World) :
    Calls Try.prog 28 #[.int .i64 k] w fun e w' => e = .returned (.int .i64 0) ∧ w = w' := by
  go_enter Try.func28, Try.ntmps28
  go_wp2
  go_ret
  exact ⟨rfl, rfl⟩

theorem bvSigned_any (k : Int) (w : World) :
    Calls Try.prog 65 #[.int .i64 k] w fun e w' => e = .returned (.bool (sgn k)) ∧ w = w' := by
  go_enter Try.func65, Try.ntmps65
  go_wp2
  all_goals go_ret
  all_goals refine ⟨?_, rfl⟩
  · simp_all [sgn]
  · have h : k < 2 := by assumption
    simp [sgn, Int.not_le.2 h]

theorem bvTruth_any (b : Bool) (w : World) :
    Calls Try.prog 43 #[.bool b] w fun e w' => e = .returned (.agg #[.int .i64 1, .int .i64 (tru b)]) ∧ Ext w w' := by
  cases b
  all_goals
    go_enter Try.func43, Try.ntmps43
    go_wp2
  · exact bodyPost_ret (v := .agg #[.int .i64 1, .int .i64 0]) (by simp [results, Try.results43, go_sem]) rfl ⟨rfl, (Ext.refl _).alloc _⟩
  · exact bodyPost_ret (v := .agg #[.int .i64 1, .int .i64 1]) (by simp [results, Try.results43, go_sem]) rfl ⟨rfl, (Ext.refl _).alloc _⟩

theorem bvOf_any (k n m : Int) (w : World) :
    Calls Try.prog 44 #[.agg #[.int .i64 k, .int .i64 n], .int .i64 m] w fun e w' => e = .returned (.agg #[.int .i64 k, .int .i64 (wkr k m)]) ∧ Ext w w' := by
  go_enter Try.func44, Try.ntmps44
  go_wp2_with fail
  refine region_tail 7 (by kernel_rfl) (by kernel_rfl) ?_
  simp only [List.take_succ_cons, List.take_zero, List.drop_succ_cons, List.drop_zero]
  repeat still_step
  still_call (still_in (bvWrap_any _ _ _))
  repeat still_step
  refine wpStill_nil ?_
  go_wp2_with fail
  exact bodyPost_ret (v := .agg #[.int .i64 k, .int .i64 (wkr k m)]) (by simp [results, Try.results44, go_sem]) rfl ⟨rfl, (((Ext.refl _).alloc _).alloc _).drew⟩

theorem bvAdd_any (k n k' m : Int) (w : World) :
    Calls Try.prog 37 #[.agg #[.int .i64 k, .int .i64 n], .agg #[.int .i64 k', .int .i64 m]] w fun e w' => e = .returned (.agg #[.int .i64 k, .int .i64 (wkr k (wrap64 (n + m)))]) ∧ Ext w w' := by
  go_enter Try.func37, Try.ntmps37
  go_wp2_with (first | (go_at_call 44; refine (bvOf_any _ _ _ _).mono ?_; rintro e w1 ⟨rfl, hx⟩; obtain ⟨t, rfl⟩ := hx.tok))
  refine bodyPost_ret (v := .agg #[.int .i64 k, .int .i64 (wkr k (wrap64 (n + m)))]) (by simp [results, Try.results37, go_sem]) rfl ⟨rfl, (by repeat first | exact Ext.refl _ | assumption | refine Ext.drew ?_ | refine Ext.extBy ?_ _ | refine Ext.alloc ?_ _ | refine Ext.setCell ?_ (by simp; try omega) _ | (refine Ext.trans ?_ (by assumption)))⟩

theorem bvSub_any (k n k' m : Int) (w : World) :
    Calls Try.prog 47 #[.agg #[.int .i64 k, .int .i64 n], .agg #[.int .i64 k', .int .i64 m]] w fun e w' => e = .returned (.agg #[.int .i64 k, .int .i64 (wkr k (wrap64 (n - m)))]) ∧ Ext w w' := by
  go_enter Try.func47, Try.ntmps47
  go_wp2_with (first | (go_at_call 44; refine (bvOf_any _ _ _ _).mono ?_; rintro e w1 ⟨rfl, hx⟩; obtain ⟨t, rfl⟩ := hx.tok))
  refine bodyPost_ret (v := .agg #[.int .i64 k, .int .i64 (wkr k (wrap64 (n - m)))]) (by simp [results, Try.results47, go_sem]) rfl ⟨rfl, (by repeat first | exact Ext.refl _ | assumption | refine Ext.drew ?_ | refine Ext.extBy ?_ _ | refine Ext.alloc ?_ _ | refine Ext.setCell ?_ (by simp; try omega) _ | (refine Ext.trans ?_ (by assumption)))⟩

theorem bvMul_any (k n k' m : Int) (w : World) :
    Calls Try.prog 48 #[.agg #[.int .i64 k, .int .i64 n], .agg #[.int .i64 k', .int .i64 m]] w fun e w' => e = .returned (.agg #[.int .i64 k, .int .i64 (wkr k (wrap64 (n * m)))]) ∧ Ext w w' := by
  go_enter Try.func48, Try.ntmps48
  go_wp2_with (first | (go_at_call 44; refine (bvOf_any _ _ _ _).mono ?_; rintro e w1 ⟨rfl, hx⟩; obtain ⟨t, rfl⟩ := hx.tok))
  refine bodyPost_ret (v := .agg #[.int .i64 k, .int .i64 (wkr k (wrap64 (n * m)))]) (by simp [results, Try.results48, go_sem]) rfl ⟨rfl, (by repeat first | exact Ext.refl _ | assumption | refine Ext.drew ?_ | refine Ext.extBy ?_ _ | refine Ext.alloc ?_ _ | refine Ext.setCell ?_ (by simp; try omega) _ | (refine Ext.trans ?_ (by assumption)))⟩

theorem bvAnd_any (k n k' m : Int) (w : World) :
    Calls Try.prog 51 #[.agg #[.int .i64 k, .int .i64 n], .agg #[.int .i64 k', .int .i64 m]] w fun e w' => e = .returned (.agg #[.int .i64 k, .int .i64 (wkr k (bits .and .i64 n m))]) ∧ Ext w w' := by
  go_enter Try.func51, Try.ntmps51
  go_wp2_with (first | (go_at_call 44; refine (bvOf_any _ _ _ _).mono ?_; rintro e w1 ⟨rfl, hx⟩; obtain ⟨t, rfl⟩ := hx.tok))
  refine bodyPost_ret (v := .agg #[.int .i64 k, .int .i64 (wkr k (bits .and .i64 n m))]) (by simp [results, Try.results51, go_sem]) rfl ⟨rfl, (by repeat first | exact Ext.refl _ | assumption | refine Ext.drew ?_ | refine Ext.extBy ?_ _ | refine Ext.alloc ?_ _ | refine Ext.setCell ?_ (by simp; try omega) _ | (refine Ext.trans ?_ (by assumption)))⟩

theorem bvOr_any (k n k' m : Int) (w : World) :
    Calls Try.prog 52 #[.agg #[.int .i64 k, .int .i64 n], .agg #[.int .i64 k', .int .i64 m]] w fun e w' => e = .returned (.agg #[.int .i64 k, .int .i64 (wkr k (bits .or .i64 n m))]) ∧ Ext w w' := by
  go_enter Try.func52, Try.ntmps52
  go_wp2_with (first | (go_at_call 44; refine (bvOf_any _ _ _ _).mono ?_; rintro e w1 ⟨rfl, hx⟩; obtain ⟨t, rfl⟩ := hx.tok))
  refine bodyPost_ret (v := .agg #[.int .i64 k, .int .i64 (wkr k (bits .or .i64 n m))]) (by simp [results, Try.results52, go_sem]) rfl ⟨rfl, (by repeat first | exact Ext.refl _ | assumption | refine Ext.drew ?_ | refine Ext.extBy ?_ _ | refine Ext.alloc ?_ _ | refine Ext.setCell ?_ (by simp; try omega) _ | (refine Ext.trans ?_ (by assumption)))⟩

theorem bvXor_any (k n k' m : Int) (w : World) :
    Calls Try.prog 53 #[.agg #[.int .i64 k, .int .i64 n], .agg #[.int .i64 k', .int .i64 m]] w fun e w' => e = .returned (.agg #[.int .i64 k, .int .i64 (wkr k (bits .xor .i64 n m))]) ∧ Ext w w' := by
  go_enter Try.func53, Try.ntmps53
  go_wp2_with (first | (go_at_call 44; refine (bvOf_any _ _ _ _).mono ?_; rintro e w1 ⟨rfl, hx⟩; obtain ⟨t, rfl⟩ := hx.tok))
  refine bodyPost_ret (v := .agg #[.int .i64 k, .int .i64 (wkr k (bits .xor .i64 n m))]) (by simp [results, Try.results53, go_sem]) rfl ⟨rfl, (by repeat first | exact Ext.refl _ | assumption | refine Ext.drew ?_ | refine Ext.extBy ?_ _ | refine Ext.alloc ?_ _ | refine Ext.setCell ?_ (by simp; try omega) _ | (refine Ext.trans ?_ (by assumption)))⟩

end Go.Proofs.Ytkfljmdgegjgjaa
