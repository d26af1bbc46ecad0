/-
  What the functions of package bv do: widths, wraps, the operations on two values.
  No condition.
-/
import Derived.Test.YtkjgghbdpmkmoaaRows
import Derived.Test.YtkjgghbdpmkmoaaKit
import Derived.Test.YtkjgghbdpmkmoaaBvPlain
namespace Go.Proofs.Ytkjgghbdpmkmoaa
open Go.RowKit
set_option linter.unusedSimpArgs false
set_option linter.unusedVariables false
set_option maxRecDepth 100000

theorem bvWidth_any (k : Int) (w : World) :
    Calls Try.prog 29 #[.int .i64 k] w fun e w' => e = .returned (.int .i64 (width k)) ∧ w = w' := by
  go_enter Try.func29, Try.ntmps29
  go_wp2
  all_goals go_ret
  all_goals refine ⟨?_, rfl⟩
  all_goals simp_all [width]

theorem bvWrap_any (k n : Int) (w : World) :
    Calls Try.prog 44 #[.int .i64 k, .int .i64 n] w fun e w' => e = .returned (.int .i64 (wkr k n)) ∧ w = w' := by
  go_enter Try.func44, Try.ntmps44
  go_wp2
  all_goals go_ret
  all_goals refine ⟨?_, rfl⟩
  all_goals simp_all [wkr]

theorem bvIs_any (k n : Int) (w : World) :
    Calls Try.prog 34 #[.int .i64 k, .int .i64 n] w fun e w' => e = .returned (.bool (isk k n)) ∧ w = w' := by
  go_enter Try.func34, Try.ntmps34
  go_wp2_with (first | (go_at_call 29; refine (bvWidth_any _ _).mono ?_; rintro e w' ⟨rfl, rfl⟩) | (go_at_call 44; refine (bvWrap_any _ _ _).mono ?_; rintro e w' ⟨rfl, rfl⟩))
  all_goals go_ret
  all_goals refine ⟨?_, rfl⟩
  · simp_all [isk]
  · have h : width k ≤ 0 := by assumption
    simp [isk, Int.not_lt.2 h]

theorem bvSigned_any (k : Int) (w : World) :
    Calls Try.prog 74 #[.int .i64 k] w fun e w' => e = .returned (.bool (sgn k)) ∧ w = w' := by
  go_enter Try.func74, Try.ntmps74
  go_wp2
  all_goals go_ret
  all_goals refine ⟨?_, rfl⟩
  · simp_all [sgn]
  · have h : k < 2 := by assumption
    simp [sgn, Int.not_le.2 h]

theorem bvTruth_any (b : Bool) (w : World) :
    Calls Try.prog 56 #[.bool b] w fun e w' => e = .returned (.agg #[.int .i64 1, .int .i64 (tru b)]) ∧ Ext w w' := by
  cases b
  all_goals
    go_enter Try.func56, Try.ntmps56
    go_wp2
  · exact bodyPost_ret (v := .agg #[.int .i64 1, .int .i64 0]) (by simp [results, Try.results56, go_sem]) rfl ⟨rfl, (Ext.refl _).alloc _⟩
  · exact bodyPost_ret (v := .agg #[.int .i64 1, .int .i64 1]) (by simp [results, Try.results56, go_sem]) rfl ⟨rfl, (Ext.refl _).alloc _⟩

theorem bvOf_any (k n m : Int) (w : World) :
    Calls Try.prog 49 #[.agg #[.int .i64 k, .int .i64 n], .int .i64 m] w fun e w' => e = .returned (.agg #[.int .i64 k, .int .i64 (wkr k m)]) ∧ Ext w w' := by
  go_enter Try.func49, Try.ntmps49
  go_wp2_with fail
  refine region_tail 7 (by kernel_rfl) (by kernel_rfl) ?_
  simp only [List.take_succ_cons, List.take_zero, List.drop_succ_cons, List.drop_zero]
  repeat still_step
  still_call (still_in (bvWrap_any _ _ _))
  repeat still_step
  refine wpStill_nil ?_
  go_wp2_with fail
  exact bodyPost_ret (v := .agg #[.int .i64 k, .int .i64 (wkr k m)]) (by simp [results, Try.results49, go_sem]) rfl ⟨rfl, (((Ext.refl _).alloc _).alloc _).drew⟩

theorem bvAdd_any (k n k' m : Int) (w : World) :
    Calls Try.prog 55 #[.agg #[.int .i64 k, .int .i64 n], .agg #[.int .i64 k', .int .i64 m]] w fun e w' => e = .returned (.agg #[.int .i64 k, .int .i64 (wkr k (wrap64 (n + m)))]) ∧ Ext w w' := by
  go_enter Try.func55, Try.ntmps55
  go_wp2_with (first | (go_at_call 49; refine (bvOf_any _ _ _ _).mono ?_; rintro e w1 ⟨rfl, hx⟩; obtain ⟨t, rfl⟩ := hx.tok))
  refine bodyPost_ret (v := .agg #[.int .i64 k, .int .i64 (wkr k (wrap64 (n + m)))]) (by simp [results, Try.results55, go_sem]) rfl ⟨rfl, (by repeat first | exact Ext.refl _ | assumption | refine Ext.drew ?_ | refine Ext.drewN ?_ _ | refine Ext.extBy ?_ _ | refine Ext.alloc ?_ _ | refine Ext.setCell ?_ (by simp; try omega) _ | (refine Ext.trans ?_ (by assumption)))⟩

theorem bvSub_any (k n k' m : Int) (w : World) :
    Calls Try.prog 57 #[.agg #[.int .i64 k, .int .i64 n], .agg #[.int .i64 k', .int .i64 m]] w fun e w' => e = .returned (.agg #[.int .i64 k, .int .i64 (wkr k (wrap64 (n - m)))]) ∧ Ext w w' := by
  go_enter Try.func57, Try.ntmps57
  go_wp2_with (first | (go_at_call 49; refine (bvOf_any _ _ _ _).mono ?_; rintro e w1 ⟨rfl, hx⟩; obtain ⟨t, rfl⟩ := hx.tok))
  refine bodyPost_ret (v := .agg #[.int .i64 k, .int .i64 (wkr k (wrap64 (n - m)))]) (by simp [results, Try.results57, go_sem]) rfl ⟨rfl, (by repeat first | exact Ext.refl _ | assumption | refine Ext.drew ?_ | refine Ext.drewN ?_ _ | refine Ext.extBy ?_ _ | refine Ext.alloc ?_ _ | refine Ext.setCell ?_ (by simp; try omega) _ | (refine Ext.trans ?_ (by assumption)))⟩

theorem bvMul_any (k n k' m : Int) (w : World) :
    Calls Try.prog 58 #[.agg #[.int .i64 k, .int .i64 n], .agg #[.int .i64 k', .int .i64 m]] w fun e w' => e = .returned (.agg #[.int .i64 k, .int .i64 (wkr k (wrap64 (n * m)))]) ∧ Ext w w' := by
  go_enter Try.func58, Try.ntmps58
  go_wp2_with (first | (go_at_call 49; refine (bvOf_any _ _ _ _).mono ?_; rintro e w1 ⟨rfl, hx⟩; obtain ⟨t, rfl⟩ := hx.tok))
  refine bodyPost_ret (v := .agg #[.int .i64 k, .int .i64 (wkr k (wrap64 (n * m)))]) (by simp [results, Try.results58, go_sem]) rfl ⟨rfl, (by repeat first | exact Ext.refl _ | assumption | refine Ext.drew ?_ | refine Ext.drewN ?_ _ | refine Ext.extBy ?_ _ | refine Ext.alloc ?_ _ | refine Ext.setCell ?_ (by simp; try omega) _ | (refine Ext.trans ?_ (by assumption)))⟩

theorem bvAnd_any (k n k' m : Int) (w : World) :
    Calls Try.prog 61 #[.agg #[.int .i64 k, .int .i64 n], .agg #[.int .i64 k', .int .i64 m]] w fun e w' => e = .returned (.agg #[.int .i64 k, .int .i64 (wkr k (bits .and .i64 n m))]) ∧ Ext w w' := by
  go_enter Try.func61, Try.ntmps61
  go_wp2_with (first | (go_at_call 49; refine (bvOf_any _ _ _ _).mono ?_; rintro e w1 ⟨rfl, hx⟩; obtain ⟨t, rfl⟩ := hx.tok))
  refine bodyPost_ret (v := .agg #[.int .i64 k, .int .i64 (wkr k (bits .and .i64 n m))]) (by simp [results, Try.results61, go_sem]) rfl ⟨rfl, (by repeat first | exact Ext.refl _ | assumption | refine Ext.drew ?_ | refine Ext.drewN ?_ _ | refine Ext.extBy ?_ _ | refine Ext.alloc ?_ _ | refine Ext.setCell ?_ (by simp; try omega) _ | (refine Ext.trans ?_ (by assumption)))⟩

theorem bvOr_any (k n k' m : Int) (w : World) :
    Calls Try.prog 62 #[.agg #[.int .i64 k, .int .i64 n], .agg #[.int .i64 k', .int .i64 m]] w fun e w' => e = .returned (.agg #[.int .i64 k, .int .i64 (wkr k (bits .or .i64 n m))]) ∧ Ext w w' := by
  go_enter Try.func62, Try.ntmps62
  go_wp2_with (first | (go_at_call 49; refine (bvOf_any _ _ _ _).mono ?_; rintro e w1 ⟨rfl, hx⟩; obtain ⟨t, rfl⟩ := hx.tok))
  refine bodyPost_ret (v := .agg #[.int .i64 k, .int .i64 (wkr k (bits .or .i64 n m))]) (by simp [results, Try.results62, go_sem]) rfl ⟨rfl, (by repeat first | exact Ext.refl _ | assumption | refine Ext.drew ?_ | refine Ext.drewN ?_ _ | refine Ext.extBy ?_ _ | refine Ext.alloc ?_ _ | refine Ext.setCell ?_ (by simp; try omega) _ | (refine Ext.trans ?_ (by assumption)))⟩

theorem bvXor_any (k n k' m : Int) (w : World) :
    Calls Try.prog 63 #[.agg #[.int .i64 k, .int .i64 n], .agg #[.int .i64 k', .int .i64 m]] w fun e w' => e = .returned (.agg #[.int .i64 k, .int .i64 (wkr k (bits .xor .i64 n m))]) ∧ Ext w w' := by
  go_enter Try.func63, Try.ntmps63
  go_wp2_with (first | (go_at_call 49; refine (bvOf_any _ _ _ _).mono ?_; rintro e w1 ⟨rfl, hx⟩; obtain ⟨t, rfl⟩ := hx.tok))
  refine bodyPost_ret (v := .agg #[.int .i64 k, .int .i64 (wkr k (bits .xor .i64 n m))]) (by simp [results, Try.results63, go_sem]) rfl ⟨rfl, (by repeat first | exact Ext.refl _ | assumption | refine Ext.drew ?_ | refine Ext.drewN ?_ _ | refine Ext.extBy ?_ _ | refine Ext.alloc ?_ _ | refine Ext.setCell ?_ (by simp; try omega) _ | (refine Ext.trans ?_ (by assumption)))⟩

end Go.Proofs.Ytkjgghbdpmkmoaa
