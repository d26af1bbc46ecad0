/-
  The walks of the formulas' small functions.
  Conditions: numbers are small.
-/
import Derived.Test.YtlikmdeplpldlaaDoorCnfOpen
namespace Go.Proofs.YtlikmdeplpldlaaDoor
open Go.RowKit
set_option linter.unusedSimpArgs false
set_option linter.unusedVariables false
set_option maxRecDepth 100000

theorem and_one (x : Int) : bits .and .i64 x 1 = x % 2 := by
  have h0 : bits .and .i64 x 1 = IntKind.i64.wrap ((BitVec.ofInt 64 x &&& BitVec.ofInt 64 1).toNat : Int) := rfl
  rw [h0]
  have h : (BitVec.ofInt 64 x &&& BitVec.ofInt 64 1).toNat = (x % 2).toNat := by
    rw [BitVec.toNat_and]
    have h1 : (BitVec.ofInt 64 1).toNat = 1 := by decide
    rw [h1, Nat.and_one_is_mod, BitVec.toNat_ofInt]
    omega
  rw [h]
  have h2 : 0 ≤ x % 2 ∧ x % 2 < 2 := by omega
  simp [IntKind.wrap, IntKind.bits, IntKind.signed]
  omega
theorem num23_any (n : Int) (w : World) : Calls Tryd.prog 11 #[.int .i64 n] w fun e w' => e = .returned (.int .i64 n) ∧ w = w' := by
  go_enter Tryd.func11, Tryd.ntmps11
  go_wp2
  go_ret
  exact ⟨rfl, rfl⟩
theorem literalR_any (m : Nat) (hm : m < 1000000) (w : World) : Calls Tryd.prog 32 #[.int .i64 (m : Int)] w fun e w' => e = .returned (.int .i64 (litW m)) ∧ w = w' := by
  have h1 : (m : Int).tdiv 2 = ((m / 2 : Nat) : Int) := by rw [Int.tdiv_eq_ediv_of_nonneg (by omega)]; omega
  have h2 : (m : Int).tmod 2 = ((m % 2 : Nat) : Int) := by rw [Int.tmod_eq_emod_of_nonneg (by omega)]; omega
  have h3 : ((m : Int)).toNat = m := by omega
  obtain ⟨d, hd⟩ : ∃ d, d = m / 2 := ⟨_, rfl⟩
  rw [← hd] at h1
  by_cases ho : m % 2 = 1
  · have e : litW m = -((d : Int) + 1) := by unfold litW; rw [h3, if_pos ho, hd]
    rw [e]
    rw [ho] at h2
    have hdb : d < 1000000 := by omega
    clear e hd h3
    go_enter Tryd.func32, Tryd.ntmps32
    go_wp2
    go_ret
    exact ⟨rfl, rfl⟩
  · have e : litW m = (d : Int) + 1 := by unfold litW; rw [h3, if_neg ho, hd]
    rw [e]
    have h0 : m % 2 = 0 := by omega
    rw [h0] at h2
    have hdb : d < 1000000 := by omega
    clear e hd h3
    go_enter Tryd.func32, Tryd.ntmps32
    go_wp2
    go_ret
    exact ⟨rfl, rfl⟩
theorem literalC_any (m : Nat) (hm : m < 1000000) (w : World) : Calls Tryd.prog 30 #[.int .i64 (m : Int)] w fun e w' => e = .returned (.int .i64 (litW m)) ∧ w = w' := by
  have h1 : (m : Int).tdiv 2 = ((m / 2 : Nat) : Int) := by rw [Int.tdiv_eq_ediv_of_nonneg (by omega)]; omega
  have h2 : bits .and .i64 (m : Int) 1 = ((m % 2 : Nat) : Int) := by rw [and_one]; omega
  have h3 : ((m : Int)).toNat = m := by omega
  obtain ⟨d, hd⟩ : ∃ d, d = m / 2 := ⟨_, rfl⟩
  rw [← hd] at h1
  by_cases ho : m % 2 = 1
  · have e : litW m = -((d : Int) + 1) := by unfold litW; rw [h3, if_pos ho, hd]
    rw [e]
    rw [ho] at h2
    have hdb : d < 1000000 := by omega
    clear e hd h3
    go_enter Tryd.func30, Tryd.ntmps30
    go_wp2
    go_ret
    exact ⟨rfl, rfl⟩
  · have e : litW m = (d : Int) + 1 := by unfold litW; rw [h3, if_neg ho, hd]
    rw [e]
    have h0 : m % 2 = 0 := by omega
    rw [h0] at h2
    have hdb : d < 1000000 := by omega
    clear e hd h3
    go_enter Tryd.func30, Tryd.ntmps30
    go_wp2
    go_ret
    exact ⟨rfl, rfl⟩
theorem literalIs_any (x l : Int) (cv : Value) (hx : 0 ≤ x ∧ x ≤ 1000000) (w : World) : Calls Tryd.prog 26 #[.agg #[.int .i64 x, cv], .int .i64 l] w fun e w' => e = .returned (.bool (litOk x l)) ∧ Ext w w' := by
  obtain ⟨h0, h1⟩ := hx
  by_cases ha : l = 0
  · have e : litOk x l = false := by simp [litOk, ha]
    rw [e]
    clear e
    go_enter Tryd.func26, Tryd.ntmps26
    go_wp2
    go_ret
    exact ⟨rfl, (by repeat first | exact Ext.refl _ | assumption | refine Ext.drew ?_ | refine Ext.drewN ?_ _ | refine Ext.extBy ?_ _ | refine Ext.alloc ?_ _ | refine Ext.setCell ?_ (by simp; try omega) _ | (refine Ext.trans ?_ (by assumption)))⟩
  · have ha' : (l != 0) = true := by simpa using ha
    by_cases hb : l ≤ x
    · by_cases hc : -x ≤ l
      · have e : litOk x l = true := by simp [litOk, ha, hb, hc]
        rw [e]
        clear e
        go_enter Tryd.func26, Tryd.ntmps26
        go_wp2
        go_ret
        exact ⟨rfl, (by repeat first | exact Ext.refl _ | assumption | refine Ext.drew ?_ | refine Ext.drewN ?_ _ | refine Ext.extBy ?_ _ | refine Ext.alloc ?_ _ | refine Ext.setCell ?_ (by simp; try omega) _ | (refine Ext.trans ?_ (by assumption)))⟩
      · have e : litOk x l = false := by simp [litOk, hc]
        rw [e]
        clear e
        go_enter Tryd.func26, Tryd.ntmps26
        go_wp2
        go_ret
        exact ⟨rfl, (by repeat first | exact Ext.refl _ | assumption | refine Ext.drew ?_ | refine Ext.drewN ?_ _ | refine Ext.extBy ?_ _ | refine Ext.alloc ?_ _ | refine Ext.setCell ?_ (by simp; try omega) _ | (refine Ext.trans ?_ (by assumption)))⟩
    · have e : litOk x l = false := by simp [litOk, hb]
      rw [e]
      clear e
      go_enter Tryd.func26, Tryd.ntmps26
      go_wp2
      go_ret
      exact ⟨rfl, (by repeat first | exact Ext.refl _ | assumption | refine Ext.drew ?_ | refine Ext.drewN ?_ _ | refine Ext.extBy ?_ _ | refine Ext.alloc ?_ _ | refine Ext.setCell ?_ (by simp; try omega) _ | (refine Ext.trans ?_ (by assumption)))⟩
end Go.Proofs.YtlikmdeplpldlaaDoor
