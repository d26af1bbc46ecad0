/-
  The walk of a wire's value.
  Conditions: the values lie in memory, the wire is one.
-/
import Derived.Test.YtlikmdeplpldlaaDoorCnfF
namespace Go.Proofs.YtlikmdeplpldlaaDoor
open Go.RowKit
set_option linter.unusedSimpArgs false
set_option linter.unusedVariables false
set_option maxRecDepth 100000

theorem wireR_any (v : List Bool) (vv : Value) (m : Nat) (hm : m < 2 * v.length) (hl : v.length ≤ 1000000) (w : World) (h : SlC w vv v.length (bools v)) :
    Calls Tryd.prog 20 #[vv, .int .i64 (m : Int)] w fun e w' => e = .returned (.bool (wireV v m)) ∧ w = w' := by
  have h1 : (m : Int).tdiv 2 = ((m / 2 : Nat) : Int) := by rw [Int.tdiv_eq_ediv_of_nonneg (by omega)]; omega
  have h2 : (m : Int).tmod 2 = ((m % 2 : Nat) : Int) := by rw [Int.tmod_eq_emod_of_nonneg (by omega)]; omega
  have h3 : ((m : Int)).toNat = m := by omega
  obtain ⟨a, cap, rfl, -, -, hc⟩ := h
  obtain ⟨d, hd⟩ : ∃ d, d = m / 2 := ⟨_, rfl⟩
  obtain ⟨b, hb⟩ : ∃ b, v[d]? = some b := ⟨_, List.getElem?_eq_getElem (by omega)⟩
  obtain ⟨vb, vo, rfl, g0⟩ := hc d (.bool b) (bools_at v d b hb)
  have hdl : (d : Int) < (v.length : Int) := by omega
  rw [← hd] at h1
  by_cases ho : m % 2 = 1
  · have e : wireV v m = !b := by
      unfold wireV
      rw [h3, ← hd, ho]
      simp [List.getD, hb]
    rw [e]
    rw [ho] at h2
    generalize v.length = n at hdl hl hm ⊢
    clear e hd h3 hc hb
    cases b
    · go_enter Tryd.func20, Tryd.ntmps20
      go_wp2
      go_ret
      exact ⟨rfl, rfl⟩
    · go_enter Tryd.func20, Tryd.ntmps20
      go_wp2
      go_ret
      exact ⟨rfl, rfl⟩
  · have h0 : m % 2 = 0 := by omega
    have e : wireV v m = b := by
      unfold wireV
      rw [h3, ← hd, h0]
      simp [List.getD, hb]
    rw [e]
    rw [h0] at h2
    generalize v.length = n at hdl hl hm ⊢
    clear e hd h3 hc hb
    cases b
    · go_enter Tryd.func20, Tryd.ntmps20
      go_wp2
      go_ret
      exact ⟨rfl, rfl⟩
    · go_enter Tryd.func20, Tryd.ntmps20
      go_wp2
      go_ret
      exact ⟨rfl, rfl⟩
end Go.Proofs.YtlikmdeplpldlaaDoor
