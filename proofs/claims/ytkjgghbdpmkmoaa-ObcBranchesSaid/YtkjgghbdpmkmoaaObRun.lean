/-
  A run's values are numbers that 64 bits hold: plain.
  No condition.
-/
import Derived.Test.YtkjgghbdpmkmoaaObW1
import Derived.Test.YtkjgghbdpmkmoaaBvLaw2
namespace Go.Proofs.Ytkjgghbdpmkmoaa
open Go.RowKit
set_option linter.unusedSimpArgs false
set_option linter.unusedVariables false
set_option maxRecDepth 100000

theorem tru_64 (b : Bool) : I64 (tru b) := by cases b <;> simp [tru, I64]
theorem zero_64 : I64 0 := by unfold I64; omega
theorem unv_64 (op k a : Int) : I64 (unv op k a).1 := by
  unfold unv
  by_cases h1 : isk k a = false
  · rw [if_pos h1]; exact zero_64
  rw [if_neg h1]
  by_cases h2 : op = 1
  · rw [if_pos h2]
    by_cases h3 : k = 1
    · rw [if_pos h3]; exact wrap64_I64 _
    · rw [if_neg h3]
      have := wkr_I64 (k := k) (bitsI64 .xor (-1) a (by simp))
      exact this
  rw [if_neg h2]
  by_cases h3 : op = 2
  · rw [if_pos h3]
    by_cases h4 : k = 1
    · rw [if_pos h4]; exact zero_64
    · rw [if_neg h4]
      have := wkr_I64 (k := k) (wrap64_I64 (-a))
      exact this
  · rw [if_neg h3]; exact zero_64
theorem castv_64 {f t a : Int} (ha : I64 a) : I64 (castv f t a).1 := by
  unfold castv
  split
  · exact zero_64
  · split
    · exact tru_64 _
    · exact wkr_I64 ha
theorem binr_64 (n : Nat) {k a b : Int} (ha : I64 a) (hb : I64 b) : I64 (binr n k a b).1 := by
  unfold binr
  split
  all_goals dsimp only
  all_goals first
    | (with_reducible exact wkr_I64 (wrap64_I64 _))
    | (with_reducible exact wkr_I64 (divv_I64 ha hb))
    | (with_reducible exact wkr_I64 (modv_I64 ha))
    | (with_reducible exact wkr_I64 (bitsI64 _ _ _ (by simp)))
    | (with_reducible exact wkr_I64 (shlv_I64 _ _ _ _))
    | (with_reducible exact wkr_I64 (shrv_I64 ha))
    | (with_reducible exact tru_64 _)
    | (with_reducible exact zero_64)
theorem binv_64 (op : Int) {k a b : Int} (ha : I64 a) (hb : I64 b) : I64 (binv op k a b).1 := by
  unfold binv
  split
  · exact binr_64 _ ha hb
  · exact zero_64
theorem runK_get (ks vs : ENV) : ∀ (l : List CE) (i : Nat), (runK ks vs l)[i]? = (l[i]?).map (runE ks vs)
  | [], i => by rw [runK]; simp
  | x :: l, 0 => by rw [runK]; simp
  | x :: l, i + 1 => by rw [runK]; simpa using runK_get ks vs l i
theorem runE_eq (ks vs : ENV) (e : CE) : runE ks vs e = if e.form = 1 then (e.n, e.kind) else if e.form = 2 then (getV vs e.name, getV ks e.name) else runF e.form e.sub e.kind (runK ks vs e.kids) := by
  cases e with
  | mk f s k n nm l => rw [runE]; rfl
theorem okK.mem : ∀ {l : List CE} {e : CE}, okK l → e ∈ l → okE e
  | [], _, _, h => by cases h
  | x :: l, e, h, he => by
    unfold okK at h
    rcases List.mem_cons.1 he with h1 | h1
    · rw [h1]; exact h.1
    · exact okK.mem h.2 h1
theorem runE_64 {ks vs : ENV} (hv : ∀ n, I64 (getV vs n)) (e : CE) : okE e → I64 (runE ks vs e).1 := by
  induction e using CE.ind with
  | h f s k n nm l ih =>
    intro hok
    have hk : ∀ i, I64 ((runK ks vs l).getD i (0, 0)).1 := fun i => by
      unfold List.getD
      rw [runK_get]
      cases h : l[i]? with
      | none => exact zero_64
      | some x => exact ih x (List.mem_of_getElem? h) (hok.kids.mem (List.mem_of_getElem? h))
    rw [runE]
    by_cases h1 : f = 1
    · rw [if_pos h1]; exact hok.ints.2.2.2
    rw [if_neg h1]
    by_cases h2 : f = 2
    · rw [if_pos h2]; exact hv nm
    rw [if_neg h2]
    unfold runF
    by_cases h5 : f = 5
    · rw [if_pos h5]
      by_cases h6 : ((runK ks vs l).getD 0 (0, 0)).1 ≠ 0
      · rw [if_pos h6]; exact hk 1
      · rw [if_neg h6]; exact hk 2
    rw [if_neg h5]
    by_cases h3 : f = 3
    · rw [if_pos h3]; exact unv_64 _ _ _
    rw [if_neg h3]
    by_cases h11 : f = 11
    · rw [if_pos h11]; exact castv_64 (hk 0)
    · rw [if_neg h11]; exact binv_64 _ (hk 0) (hk 1)
end Go.Proofs.Ytkjgghbdpmkmoaa
