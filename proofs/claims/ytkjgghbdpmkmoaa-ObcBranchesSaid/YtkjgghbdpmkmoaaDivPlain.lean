/-
  Division of numbers without a sign, bit by bit: the plain law.
  No condition but that the divisor is not nought.
-/
import Derived.Test.YtkjgghbdpmkmoaaBvPlain
namespace Go.Proofs.Ytkjgghbdpmkmoaa
open Go.RowKit
set_option linter.unusedSimpArgs false
set_option linter.unusedVariables false
set_option maxRecDepth 100000

theorem wrap64_eq (n : Int) : wrap64 n = (n + 9223372036854775808) % 18446744073709551616 - 9223372036854775808 := by
  unfold wrap64; with_reducible rfl
theorem u64_eq (n : Int) : IntKind.u64.wrap n = n % 18446744073709551616 := by simp [IntKind.wrap, IntKind.bits, IntKind.signed]
theorem wrap64_I64 (n : Int) : I64 (wrap64 n) := by rw [wrap64_eq]; unfold I64; omega
theorem wrap64_mod (n : Int) : wrap64 n % 18446744073709551616 = n % 18446744073709551616 := by rw [wrap64_eq]; omega
theorem wrap64_congr {m n : Int} (h : m % 18446744073709551616 = n % 18446744073709551616) : wrap64 m = wrap64 n := by rw [wrap64_eq, wrap64_eq]; omega
theorem wrap64_self {n : Int} (h : I64 n) : wrap64 n = n := by rw [wrap64_eq]; unfold I64 at h; omega

def DivInv (a b : Int) (i : Nat) (q r : Int) : Prop :=
  ∃ Q R : Int, q = wrap64 (Q * 2 ^ i) ∧ r = wrap64 R ∧ 0 ≤ R ∧ R < b % 18446744073709551616 ∧ Q * (b % 18446744073709551616) + R = a % 18446744073709551616 / 2 ^ i

theorem div_start (a b : Int) (hb : b % 18446744073709551616 ≠ 0) : DivInv a b 64 0 0 := by
  refine ⟨0, 0, ?_, ?_, by omega, by omega, ?_⟩
  · simp [wrap64_eq]
  · simp [wrap64_eq]
  · have : (2 : Int) ^ 64 = 18446744073709551616 := by decide
    rw [this]; omega

theorem bit_step (a : Int) (i : Nat) (hi : i < 64) : a % 18446744073709551616 / 2 ^ i = 2 * (a % 18446744073709551616 / 2 ^ (i + 1)) + a / 2 ^ i % 2 := by
  have h1 : a % 18446744073709551616 / 2 ^ (i + 1) = a % 18446744073709551616 / 2 ^ i / 2 := by
    rw [Int.pow_succ, Int.ediv_ediv_of_nonneg (Int.pow_nonneg (by decide))]
  have h2 : a % 18446744073709551616 / 2 ^ i % 2 = a / 2 ^ i % 2 := by
    obtain ⟨d, hd⟩ := Nat.le.dest (show i + 1 ≤ 64 by omega)
    have hp : (18446744073709551616 : Int) = 2 ^ i * (2 * 2 ^ d) := by
      rw [← Int.mul_assoc, ← Int.pow_succ, ← Int.pow_add, hd]; rfl
    have hpos : (0 : Int) < 2 ^ i := Int.pow_pos (by decide)
    have hm := Int.mul_ediv_add_emod a 18446744073709551616
    have e : a = a % 18446744073709551616 + (2 * 2 ^ d * (a / 18446744073709551616)) * 2 ^ i := by
      have h3 : (18446744073709551616 : Int) * (a / 18446744073709551616) = (2 * 2 ^ d * (a / 18446744073709551616)) * 2 ^ i := by
        rw [hp]; generalize a / (2 ^ i * (2 * 2 ^ d)) = t; rw [Int.mul_comm (2 ^ i) (2 * 2 ^ d), Int.mul_assoc, Int.mul_assoc, Int.mul_comm (2 ^ i) t, Int.mul_assoc]; simp [Int.mul_assoc]
      omega
    have e2 : a / 2 ^ i = a % 18446744073709551616 / 2 ^ i + 2 * 2 ^ d * (a / 18446744073709551616) := by
      conv => lhs; rw [e]
      rw [Int.add_mul_ediv_right _ _ (by omega)]
    rw [e2, Int.mul_assoc, Int.add_mul_emod_self_left]
  omega

theorem div_yes {a b : Int} {i : Nat} {q r : Int} (hi : i < 64) (h : DivInv a b (i + 1) q r) (hc : r < 0 ∨ (!blw 9 (wrap64 (wrap64 (2 * r) + a / 2 ^ i % 2)) b) = true) :
    DivInv a b i (wrap64 (q + 2 ^ i)) (wrap64 (wrap64 (wrap64 (2 * r) + a / 2 ^ i % 2) - b)) := by
  obtain ⟨Q, R, rfl, rfl, h0, h1, h2⟩ := h
  have hs := bit_step a i hi
  obtain ⟨D, hD'⟩ : ∃ D, D = b % 18446744073709551616 := ⟨_, rfl⟩
  unfold DivInv
  rw [← hD'] at h1 h2 ⊢
  have hD := hD'.symm
  clear hD'
  rw [← h2] at hs
  have hbit : 0 ≤ a / 2 ^ i % 2 ∧ a / 2 ^ i % 2 < 2 := by omega
  generalize a / 2 ^ i % 2 = t at *
  have hDb : D < 18446744073709551616 := by omega
  have m1 := wrap64_mod R
  have m2 := wrap64_mod (2 * wrap64 R)
  have m3 := wrap64_mod (wrap64 (2 * wrap64 R) + t)
  have w1 := wrap64_eq R
  have hge : D ≤ 2 * R + t := by
    rcases hc with hc | hc
    · omega
    · simp only [blw, if_true, u64_eq, Bool.not_eq_true', decide_eq_false_iff_not, hD] at hc
      omega
  refine ⟨2 * Q + 1, 2 * R + t - D, ?_, ?_, by omega, by omega, ?_⟩
  · apply wrap64_congr
    have m4 := wrap64_mod (Q * 2 ^ (i + 1))
    have e : (2 * Q + 1) * 2 ^ i = Q * 2 ^ (i + 1) + 2 ^ i := by rw [Int.pow_succ, Int.add_mul, Int.one_mul, Int.mul_comm 2 Q, Int.mul_assoc, Int.mul_comm 2 (2 ^ i)]
    rw [e]
    generalize Q * 2 ^ (i + 1) = x at *
    generalize (2 : Int) ^ i = y at *
    omega
  · apply wrap64_congr
    omega
  · rw [hs, Int.add_mul, Int.mul_assoc]; omega

theorem div_no {a b : Int} {i : Nat} {q r : Int} (hi : i < 64) (h : DivInv a b (i + 1) q r) (hc : 0 ≤ r) (hc2 : blw 9 (wrap64 (wrap64 (2 * r) + a / 2 ^ i % 2)) b = true) :
    DivInv a b i q (wrap64 (wrap64 (2 * r) + a / 2 ^ i % 2)) := by
  obtain ⟨Q, R, rfl, rfl, h0, h1, h2⟩ := h
  have hs := bit_step a i hi
  obtain ⟨D, hD'⟩ : ∃ D, D = b % 18446744073709551616 := ⟨_, rfl⟩
  unfold DivInv
  rw [← hD'] at h1 h2 ⊢
  have hD := hD'.symm
  clear hD'
  rw [← h2] at hs
  have hbit : 0 ≤ a / 2 ^ i % 2 ∧ a / 2 ^ i % 2 < 2 := by omega
  generalize a / 2 ^ i % 2 = t at *
  have hDb : D < 18446744073709551616 := by omega
  have m1 := wrap64_mod R
  have m2 := wrap64_mod (2 * wrap64 R)
  have m3 := wrap64_mod (wrap64 (2 * wrap64 R) + t)
  have w1 := wrap64_eq R
  simp only [blw, if_true, u64_eq, decide_eq_true_eq, hD] at hc2
  refine ⟨2 * Q, 2 * R + t, ?_, ?_, by omega, by omega, ?_⟩
  · congr 1
    rw [Int.pow_succ, Int.mul_comm 2 Q, Int.mul_assoc, Int.mul_comm 2 (2 ^ i)]
  · apply wrap64_congr
    omega
  · rw [hs, Int.mul_assoc]; omega

theorem div_end {a b q r : Int} (h : DivInv a b 0 q r) :
    q = wrap64 (a % 18446744073709551616 / (b % 18446744073709551616)) ∧ r = wrap64 (a % 18446744073709551616 % (b % 18446744073709551616)) := by
  obtain ⟨Q, R, rfl, rfl, h0, h1, h2⟩ := h
  generalize b % 18446744073709551616 = D at *
  rw [Int.pow_zero, Int.ediv_one] at h2
  rw [Int.pow_zero, Int.mul_one, ← h2]
  have e1 : (Q * D + R) / D = Q := by
    rw [Int.add_comm, Int.add_mul_ediv_right _ _ (by omega), Int.ediv_eq_zero_of_lt h0 h1, Int.zero_add]
  have e2 : (Q * D + R) % D = R := by
    rw [Int.add_comm, Int.add_mul_emod_self_right, Int.emod_eq_of_lt h0 h1]
  rw [e1, e2]
  exact ⟨rfl, rfl⟩
end Go.Proofs.Ytkjgghbdpmkmoaa
