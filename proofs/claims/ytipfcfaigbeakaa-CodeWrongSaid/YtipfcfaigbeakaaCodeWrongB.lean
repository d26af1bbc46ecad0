/-
  The law on what can be wrong with code: its walk, case by case.
  No condition.
-/
import Derived.Test.YtipfcfaigbeakaaCodeWrong
import Derived.Test.YtipfcfaigbeakaaJLaw
import Derived.Test.YtipfcfaigbeakaaJKit
import Derived.Deep.RegionHeld3
namespace Go.Proofs.Ytipfcfaigbeakaa
open Go.RowKit
set_option maxRecDepth 100000

theorem wantTab {w : World} {T : Nat} {t : TypeId} (h : w.heap[T]? = some (.cells #[.int .i64 0, .int .i64 40, .int .i64 40, .int .i64 40, .int .i64 40, .int .i64 40, .int .i64 40, .int .i64 40, .int .i64 50, .int .i64 50, .int .i64 50, .int .i64 50, .int .i64 50, .int .i64 50, .int .i64 50, .int .i64 50, .int .i64 50, .int .i64 50, .int .i64 0, .int .i64 2, .int .i64 40, .int .i64 50] t)) (k : Fin 22) : w.cell? ⟨T, k.val, none⟩ = some (.int .i64 (wantV.getD k.val 0)) := by
  rw [cell_of_row w T k.val _ t (0, 0) h]
  obtain ⟨k, hk⟩ := k
  match k, hk with
  | 0, _ => rfl
  | 1, _ => rfl
  | 2, _ => rfl
  | 3, _ => rfl
  | 4, _ => rfl
  | 5, _ => rfl
  | 6, _ => rfl
  | 7, _ => rfl
  | 8, _ => rfl
  | 9, _ => rfl
  | 10, _ => rfl
  | 11, _ => rfl
  | 12, _ => rfl
  | 13, _ => rfl
  | 14, _ => rfl
  | 15, _ => rfl
  | 16, _ => rfl
  | 17, _ => rfl
  | 18, _ => rfl
  | 19, _ => rfl
  | 20, _ => rfl
  | 21, _ => rfl
  | k + 22, h => exact absurd h (by omega)
/-- What is asked of the checker at case k, and what it answers. -/
def Ask (k : Nat) (x : Int) : Prop := ∀ (w' : World) (kv iv bv : Value), CodeIn w' kv iv bv (wrongV k) → Calls Try.prog 17 #[codeA (wrongV k) kv iv bv] w' fun e w1 => e = .returned (.int .i64 x) ∧ Ext w' w1
theorem ask_all (k : Fin 22) : Ask k.val (wantV.getD k.val 0) := fun w' kv iv bv h => by
  have := check_any (wrongV k.val) kv iv bv w' h
  rw [chk_wrong k] at this
  exact this
set_option maxHeartbeats 4000000 in
theorem codeWrong_out (k : Int) (hk : I64 k) (hbad : k < 0 ∨ 22 ≤ k) (w : World) : Calls Try.prog 5 #[.int .i64 k] w fun e w' => e = .returned (.bool true) ∧ Ext w w' := by
  unfold I64 at hk
  go_enter Try.func5, Try.ntmps5
  go_wp2_with (first | (go_at_call 15; refine (alive_any _).mono ?_; rintro e w1 ⟨rfl, hx1⟩; (first | (with_reducible obtain ⟨t1, rfl⟩ := Ext.tok2 hx1) | (obtain ⟨t1, rfl⟩ := Ext.tok hx1))))
  all_goals first | omega | (go_ret; exact ⟨rfl, (by repeat first | exact Ext.refl _ | assumption | refine Ext.drew ?_ | refine Ext.drewN ?_ _ | refine Ext.extBy ?_ _ | refine Ext.alloc ?_ _ | refine Ext.setCell ?_ (by simp; try omega) _ | (refine Ext.trans ?_ (by assumption)))⟩)

end Go.Proofs.Ytipfcfaigbeakaa
