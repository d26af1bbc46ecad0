/-
  The plain laws of values, as the laws' texts compare them.
  No condition but that numbers fit 64 bits.
-/
import Derived.Test.YtkfljmdgegjgjaaBvLaw4
namespace Go.Proofs.Ytkfljmdgegjgjaa
open Go.RowKit

theorem beq_of {x y : Int} (h : x = y) : (x == y) = true := by rw [h]; exact beq_self_eq_true _
theorem num_of {k : Int} (h1 : ¬ k < 2) (h2 : ¬ 9 < k) : Num k := by unfold Num; omega
theorem wid_pos' {k : Int} (h1 : ¬ k < 1) (h2 : ¬ 9 < k) : 0 < wid k := by
  rcases (show k = 1 ∨ k = 2 ∨ k = 3 ∨ k = 4 ∨ k = 5 ∨ k = 6 ∨ k = 7 ∨ k = 8 ∨ k = 9 by omega) with rfl | rfl | rfl | rfl | rfl | rfl | rfl | rfl | rfl <;> decide
theorem unv_neg {k : Int} (h : Num k) (a : Int) : unv 2 k (wkr k a) = (wkr k (wrap64 (-(wkr k a))), true) := by
  have hi := isk_wkr a h.wid
  have hk : ¬ k = 1 := by unfold Num at h; omega
  simp [unv, hi, hk]
theorem notv_wkr (k a : Int) : notv k (wkr k a) = notv k a := by unfold notv; rw [wkr_wkr]

theorem three_of {k : Int} (h : Num k) {a b : Int} (ha : I64 a) (hb : I64 b) :
    (dov 16 k a b = 1 ∧ dov 14 k a b = 0 ∧ dov 18 k a b = 0 ∧ dov 17 k a b = 1 ∧ dov 15 k a b = 1 ∧ dov 19 k a b = 0 ∧ dov 16 k b a = 0) ∨
    (dov 16 k a b = 0 ∧ dov 14 k a b = 1 ∧ dov 18 k a b = 0 ∧ dov 17 k a b = 1 ∧ dov 15 k a b = 0 ∧ dov 19 k a b = 1 ∧ dov 16 k b a = 0) ∨
    (dov 16 k a b = 0 ∧ dov 14 k a b = 0 ∧ dov 18 k a b = 1 ∧ dov 17 k a b = 0 ∧ dov 15 k a b = 1 ∧ dov 19 k a b = 1 ∧ dov 16 k b a = 1) := by
  rw [d16 h, d14 h, d18 h, d17 h, d15 h, d19 h, d16 h]
  rcases blw_tri (k := k) (wkr_I64 (k := k) ha) (wkr_I64 (k := k) hb) with ⟨h1, h2, h3⟩ | ⟨h1, h2, h3⟩ | ⟨h1, h2, h3⟩
  · left; simp [h1, h2, h3, tru, bne]
  · right; left; simp [h1, h2, h3, tru, bne]
  · right; right; simp [h1, h2, h3, tru, bne]

theorem next_of {k : Int} (h : Num k) {a b : Int} (ha : I64 a) (hb : I64 b) :
    (dov 16 k a (dov 3 k a 1) = 0 ∧ dov 17 k b a = 1 ∧ dov 16 k a b = 0) ∨ (dov 16 k a (dov 3 k a 1) = 1 ∧ (dov 16 k a b = 1 → dov 17 k (dov 3 k a 1) b = 1)) := by
  have hA := wkr_I64 (k := k) ha
  have hB := wkr_I64 (k := k) hb
  have h1 : wkr k 1 = 1 := (isk_iff.1 (small_k h (n := 1) (by omega) (by omega))).2
  have hn := blw_next h (isk_wkr a h.wid) (isk_wkr b h.wid) hA hB
  have e3 : dov 3 k a 1 = wkr k (wrap64 (wkr k a + 1)) := by rw [d3 h, h1]
  rw [e3, d16 h, d17 h, d16 h, d17 h, wkr_wkr]
  generalize wkr k (wrap64 (wkr k a + 1)) = n at *
  cases h2 : blw k (wkr k a) n
  · left
    have := hn.1 h2
    simp [this, tru]
  · right
    refine ⟨rfl, fun h3 => ?_⟩
    cases h4 : blw k (wkr k a) (wkr k b)
    · rw [h4] at h3; simp [tru] at h3
    · have := hn.2 h4
      simp [this, tru]

theorem trans_of {k : Int} (h : Num k) {a b c : Int} (h1 : dov 16 k a b = 1) : dov 16 k b c = 0 ∨ (dov 16 k b c = 1 ∧ dov 16 k a c = 1) := by
  rw [d16 h] at *
  rw [d16 h]
  have h2 : blw k (wkr k a) (wkr k b) = true := by
    cases h4 : blw k (wkr k a) (wkr k b)
    · rw [h4] at h1; simp [tru] at h1
    · rfl
  cases h3 : blw k (wkr k b) (wkr k c)
  · left; rfl
  · right
    refine ⟨rfl, ?_⟩
    rw [blw_trans h2 h3]; rfl

theorem signs_of {k : Int} (h : Num k) {a : Int} (ha : I64 a) :
    unv 2 k (wkr k (wrap64 (-(wkr k a)))) = (wkr k a, true) ∧ dov 3 k (wkr k a) (wkr k (wrap64 (-(wkr k a)))) = 0 ∧
    (6 ≤ k → dov 16 k (wkr k a) 0 = 0) ∧ (k ≤ 5 → dov 16 k (wkr k a) 0 = tru (decide (wkr k a < 0))) := by
  have hk := h
  unfold Num at hk
  refine ⟨?_, ?_, fun h6 => ?_, fun h5 => ?_⟩
  · rw [unv_neg h, neg_neg h ha]
  · have := ring_neg h (wkr k a)
    rwa [wkr_wkr] at this
  · rw [d16 h, wkr_zero, wkr_wkr, blw_zero_u (by omega) (isk_wkr a h.wid)]; rfl
  · rw [d16 h, wkr_zero, wkr_wkr, blw_zero_s (by omega)]
end Go.Proofs.Ytkfljmdgegjgjaa
