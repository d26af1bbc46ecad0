/-
  What bv.Un, bv.Cast, bv.Bin do.
  No condition but that numbers fit 64 bits.
-/
import Derived.Test.YtkjgghbdpmkmoaaBvWalkB
import Derived.Test.YtkjgghbdpmkmoaaBvBinPlain
import Derived.Laws.EntriesVeiled
import Derived.Deep.WholeRow
namespace Go.Proofs.Ytkjgghbdpmkmoaa
open Go.RowKit
set_option linter.unusedSimpArgs false
set_option linter.unusedVariables false
set_option maxRecDepth 100000

@[go_sem] theorem valField0 (x y : Value) (w : World) : Sem.run Try.prog (Instr.field 97 (.agg #[x, y]) 0) w = .ok x w := by kernel_rfl
@[go_sem] theorem valField1 (x y : Value) (w : World) : Sem.run Try.prog (Instr.field 97 (.agg #[x, y]) 1) w = .ok y w := by kernel_rfl

theorem bvFits_any (o k : Int) (w : World) :
    Calls Try.prog 53 #[.int .i64 o, .int .i64 k] w fun e w' => e = .returned (.bool (fitsv o k)) ∧ w = w' := by
  go_enter Try.func53, Try.ntmps53
  go_wp2
  all_goals go_ret
  all_goals refine ⟨?_, rfl⟩
  all_goals simp_all [fitsv]

theorem bvUn_any (op k a : Int) (w : World) :
    Calls Try.prog 45 #[.int .i64 op, .int .i64 k, .int .i64 a] w fun e w' => e = .returned (.tuple #[.int .i64 (unv op k a).1, .bool (unv op k a).2]) ∧ Ext w w' := by
  have hsg : IntKind.i64.signed = true := rfl
  cases hi : isk k a
  all_goals
    go_enter Try.func45, Try.ntmps45
    go_wp2_with (first | (go_at_call 49; refine (bvOf_any _ _ _ _).mono ?_; rintro e w1 ⟨rfl, hx⟩; (first | (with_reducible obtain ⟨t2, rfl⟩ := Ext.tok2 hx) | (obtain ⟨t2, rfl⟩ := Ext.tok hx))) | (go_at_call 34; refine (bvIs_any _ _ _).mono ?_; rintro e w1 ⟨rfl, rfl⟩))
  all_goals go_ret2
  all_goals refine ⟨?_, (by repeat first | exact Ext.refl _ | assumption | refine Ext.drew ?_ | refine Ext.drewN ?_ _ | refine Ext.extBy ?_ _ | refine Ext.alloc ?_ _ | refine Ext.setCell ?_ (by simp; try omega) _ | (refine Ext.trans ?_ (by assumption)))⟩
  all_goals simp_all [unv]

theorem bvCast_any (f t a : Int) (w : World) :
    Calls Try.prog 51 #[.int .i64 f, .int .i64 t, .int .i64 a] w fun e w' => e = .returned (.tuple #[.int .i64 (castv f t a).1, .bool (castv f t a).2]) ∧ Ext w w' := by
  cases hi : isk f a
  all_goals
    go_enter Try.func51, Try.ntmps51
    go_wp2_with (first | (go_at_call 56; refine (bvTruth_any _ _).mono ?_; rintro e w1 ⟨rfl, hx⟩; (first | (with_reducible obtain ⟨t2, rfl⟩ := Ext.tok2 hx) | (obtain ⟨t2, rfl⟩ := Ext.tok hx))) | (go_at_call 34; refine (bvIs_any _ _ _).mono ?_; rintro e w1 ⟨rfl, rfl⟩) | (go_at_call 29; refine (bvWidth_any _ _).mono ?_; rintro e w1 ⟨rfl, rfl⟩) | (go_at_call 44; refine (bvWrap_any _ _ _).mono ?_; rintro e w1 ⟨rfl, rfl⟩))
  all_goals go_ret2
  all_goals refine ⟨?_, (by repeat first | exact Ext.refl _ | assumption | refine Ext.drew ?_ | refine Ext.drewN ?_ _ | refine Ext.extBy ?_ _ | refine Ext.alloc ?_ _ | refine Ext.setCell ?_ (by simp; try omega) _ | (refine Ext.trans ?_ (by assumption)))⟩
  all_goals simp_all [castv]
end Go.Proofs.Ytkjgghbdpmkmoaa
