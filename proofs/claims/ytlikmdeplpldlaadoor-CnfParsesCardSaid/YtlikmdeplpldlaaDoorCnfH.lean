/-
  The walk that asks whether a literal holds.
  Conditions: the model lies in memory, the literal is one of it.
-/
import Derived.Test.YtlikmdeplpldlaaDoorCnfG
namespace Go.Proofs.YtlikmdeplpldlaaDoor
open Go.RowKit
set_option linter.unusedSimpArgs false
set_option linter.unusedVariables false
set_option maxRecDepth 100000

theorem litC_any (m : List Bool) (mv : Value) (l : Int) (h0 : l ≠ 0) (h1 : l < (m.length : Int)) (h2 : -(m.length : Int) < l) (hl : m.length ≤ 1000000) (w : World) (h : SlC w mv m.length (bools m)) :
    Calls Tryd.prog 28 #[mv, .int .i64 l] w fun e w' => e = .returned (.bool (litV m l)) ∧ w = w' := by
  obtain ⟨a, cap, rfl, -, -, hc⟩ := h
  rcases Int.lt_or_gt_of_ne h0 with hneg | hpos
  · obtain ⟨q, rfl⟩ : ∃ q : Nat, l = -(q : Int) := ⟨(-l).toNat, by omega⟩
    obtain ⟨b, hb⟩ : ∃ b, m[q]? = some b := ⟨_, List.getElem?_eq_getElem (by omega)⟩
    obtain ⟨vb, vo, rfl, g0⟩ := hc q (.bool b) (bools_at m q b hb)
    have e : litV m (-(q : Int)) = !b := by
      unfold litV
      rw [if_pos hneg, show (- -(q : Int)).toNat = q by omega]
      simp [List.getD, hb]
    rw [e]
    have hq : (q : Int) < (m.length : Int) := by omega
    generalize m.length = n at hq hl ⊢
    clear e hc hb h1 h2 h0
    cases b
    · go_enter Tryd.func28, Tryd.ntmps28
      go_wp2
      go_ret
      exact ⟨rfl, rfl⟩
    · go_enter Tryd.func28, Tryd.ntmps28
      go_wp2
      go_ret
      exact ⟨rfl, rfl⟩
  · obtain ⟨q, rfl⟩ : ∃ q : Nat, l = (q : Int) := ⟨l.toNat, by omega⟩
    obtain ⟨b, hb⟩ : ∃ b, m[q]? = some b := ⟨_, List.getElem?_eq_getElem (by omega)⟩
    obtain ⟨vb, vo, rfl, g0⟩ := hc q (.bool b) (bools_at m q b hb)
    have e : litV m (q : Int) = b := by
      unfold litV
      rw [if_neg (by omega), Int.toNat_natCast]
      simp [List.getD, hb]
    rw [e]
    have hq : (q : Int) < (m.length : Int) := by omega
    have hn : ¬ (q : Int) < 0 := by omega
    generalize m.length = n at hq hl ⊢
    clear e hc hb h1 h2 h0
    cases b
    · go_enter Tryd.func28, Tryd.ntmps28
      go_wp2
      go_ret
      exact ⟨rfl, rfl⟩
    · go_enter Tryd.func28, Tryd.ntmps28
      go_wp2
      go_ret
      exact ⟨rfl, rfl⟩
end Go.Proofs.YtlikmdeplpldlaaDoor
