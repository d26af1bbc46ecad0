/-
  Division of numbers without a sign, bit by bit: the plain law.
  No condition but that the divisor is not nought.
  The plain law of chapter 1: bits as numbers. What the reference works out bit by bit is what the program's operations give.
  No condition but that numbers fit 64 bits.
  The plain laws of values: rings, bits, orders, shifts, divisions.
  No condition but that numbers fit 64 bits.
-/
import Derived.Test.YtmommjagndadjaaJcB
namespace Go.Proofs.Ytmommjagndadjaa
open Go.RowKit
set_option linter.unusedSimpArgs false
set_option linter.unusedVariables false
set_option maxRecDepth 100000

theorem wrap64_eq (n : Int) : wrap64 n = (n + 9223372036854775808) % 18446744073709551616 - 9223372036854775808 := by
  unfold wrap64; with_reducible rfl
theorem u64_eq (n : Int) : IntKind.u64.wrap n = n % 18446744073709551616 := by simp [IntKind.wrap, IntKind.bits, IntKind.signed]
theorem wrap64_I64 (n : Int) : I64 (wrap64 n) := by rw [wrap64_eq]; unfold I64; omega
theorem wrap64_mod (n : Int) : wrap64 n % 18446744073709551616 = n % 18446744073709551616 := by rw [wrap64_eq]; omega
theorem wrap64_congr {m n : Int} (h : m % 18446744073709551616 = n % 18446744073709551616) : wrap64 m = wrap64 n := by rw [wrap64_eq, wrap64_eq]; omega
theorem wrap64_self {n : Int} (h : I64 n) : wrap64 n = n := by rw [wrap64_eq]; unfold I64 at h; omega

def DivInv (a b : Int) (i : Nat) (q r : Int) : Prop :=
  ∃ Q R : Int, q = wrap64 (Q * 2 ^ i) ∧ r = wrap64 R ∧ 0 ≤ R ∧ R < b % 18446744073709551616 ∧ Q * (b % 18446744073709551616) + R = a % 18446744073709551616 / 2 ^ i

theorem div_start (a b : Int) (hb : b % 18446744073709551616 ≠ 0) : DivInv a b 64 0 0 := by
  refine ⟨0, 0, ?_, ?_, by omega, by omega, ?_⟩
  · simp [wrap64_eq]
  · simp [wrap64_eq]
  · have : (2 : Int) ^ 64 = 18446744073709551616 := by decide
    rw [this]; omega

theorem bit_step (a : Int) (i : Nat) (hi : i < 64) : a % 18446744073709551616 / 2 ^ i = 2 * (a % 18446744073709551616 / 2 ^ (i + 1)) + a / 2 ^ i % 2 := by
  have h1 : a % 18446744073709551616 / 2 ^ (i + 1) = a % 18446744073709551616 / 2 ^ i / 2 := by
    rw [Int.pow_succ, Int.ediv_ediv_of_nonneg (Int.pow_nonneg (by decide))]
  have h2 : a % 18446744073709551616 / 2 ^ i % 2 = a / 2 ^ i % 2 := by
    obtain ⟨d, hd⟩ := Nat.le.dest (show i + 1 ≤ 64 by omega)
    have hp : (18446744073709551616 : Int) = 2 ^ i * (2 * 2 ^ d) := by
      rw [← Int.mul_assoc, ← Int.pow_succ, ← Int.pow_add, hd]; rfl
    have hpos : (0 : Int) < 2 ^ i := Int.pow_pos (by decide)
    have hm := Int.mul_ediv_add_emod a 18446744073709551616
    have e : a = a % 18446744073709551616 + (2 * 2 ^ d * (a / 18446744073709551616)) * 2 ^ i := by
      have h3 : (18446744073709551616 : Int) * (a / 18446744073709551616) = (2 * 2 ^ d * (a / 18446744073709551616)) * 2 ^ i := by
        rw [hp]; generalize a / (2 ^ i * (2 * 2 ^ d)) = t; rw [Int.mul_comm (2 ^ i) (2 * 2 ^ d), Int.mul_assoc, Int.mul_assoc, Int.mul_comm (2 ^ i) t, Int.mul_assoc]; simp [Int.mul_assoc]
      omega
    have e2 : a / 2 ^ i = a % 18446744073709551616 / 2 ^ i + 2 * 2 ^ d * (a / 18446744073709551616) := by
      conv => lhs; rw [e]
      rw [Int.add_mul_ediv_right _ _ (by omega)]
    rw [e2, Int.mul_assoc, Int.add_mul_emod_self_left]
  omega

theorem div_yes {a b : Int} {i : Nat} {q r : Int} (hi : i < 64) (h : DivInv a b (i + 1) q r) (hc : r < 0 ∨ (!blw 9 (wrap64 (wrap64 (2 * r) + a / 2 ^ i % 2)) b) = true) :
    DivInv a b i (wrap64 (q + 2 ^ i)) (wrap64 (wrap64 (wrap64 (2 * r) + a / 2 ^ i % 2) - b)) := by
  obtain ⟨Q, R, rfl, rfl, h0, h1, h2⟩ := h
  have hs := bit_step a i hi
  obtain ⟨D, hD'⟩ : ∃ D, D = b % 18446744073709551616 := ⟨_, rfl⟩
  unfold DivInv
  rw [← hD'] at h1 h2 ⊢
  have hD := hD'.symm
  clear hD'
  rw [← h2] at hs
  have hbit : 0 ≤ a / 2 ^ i % 2 ∧ a / 2 ^ i % 2 < 2 := by omega
  generalize a / 2 ^ i % 2 = t at *
  have hDb : D < 18446744073709551616 := by omega
  have m1 := wrap64_mod R
  have m2 := wrap64_mod (2 * wrap64 R)
  have m3 := wrap64_mod (wrap64 (2 * wrap64 R) + t)
  have w1 := wrap64_eq R
  have hge : D ≤ 2 * R + t := by
    rcases hc with hc | hc
    · omega
    · simp only [blw, if_true, u64_eq, Bool.not_eq_true', decide_eq_false_iff_not, hD] at hc
      omega
  refine ⟨2 * Q + 1, 2 * R + t - D, ?_, ?_, by omega, by omega, ?_⟩
  · apply wrap64_congr
    have m4 := wrap64_mod (Q * 2 ^ (i + 1))
    have e : (2 * Q + 1) * 2 ^ i = Q * 2 ^ (i + 1) + 2 ^ i := by rw [Int.pow_succ, Int.add_mul, Int.one_mul, Int.mul_comm 2 Q, Int.mul_assoc, Int.mul_comm 2 (2 ^ i)]
    rw [e]
    generalize Q * 2 ^ (i + 1) = x at *
    generalize (2 : Int) ^ i = y at *
    omega
  · apply wrap64_congr
    omega
  · rw [hs, Int.add_mul, Int.mul_assoc]; omega

theorem div_no {a b : Int} {i : Nat} {q r : Int} (hi : i < 64) (h : DivInv a b (i + 1) q r) (hc : 0 ≤ r) (hc2 : blw 9 (wrap64 (wrap64 (2 * r) + a / 2 ^ i % 2)) b = true) :
    DivInv a b i q (wrap64 (wrap64 (2 * r) + a / 2 ^ i % 2)) := by
  obtain ⟨Q, R, rfl, rfl, h0, h1, h2⟩ := h
  have hs := bit_step a i hi
  obtain ⟨D, hD'⟩ : ∃ D, D = b % 18446744073709551616 := ⟨_, rfl⟩
  unfold DivInv
  rw [← hD'] at h1 h2 ⊢
  have hD := hD'.symm
  clear hD'
  rw [← h2] at hs
  have hbit : 0 ≤ a / 2 ^ i % 2 ∧ a / 2 ^ i % 2 < 2 := by omega
  generalize a / 2 ^ i % 2 = t at *
  have hDb : D < 18446744073709551616 := by omega
  have m1 := wrap64_mod R
  have m2 := wrap64_mod (2 * wrap64 R)
  have m3 := wrap64_mod (wrap64 (2 * wrap64 R) + t)
  have w1 := wrap64_eq R
  simp only [blw, if_true, u64_eq, decide_eq_true_eq, hD] at hc2
  refine ⟨2 * Q, 2 * R + t, ?_, ?_, by omega, by omega, ?_⟩
  · congr 1
    rw [Int.pow_succ, Int.mul_comm 2 Q, Int.mul_assoc, Int.mul_comm 2 (2 ^ i)]
  · apply wrap64_congr
    omega
  · rw [hs, Int.mul_assoc]; omega

theorem div_end {a b q r : Int} (h : DivInv a b 0 q r) :
    q = wrap64 (a % 18446744073709551616 / (b % 18446744073709551616)) ∧ r = wrap64 (a % 18446744073709551616 % (b % 18446744073709551616)) := by
  obtain ⟨Q, R, rfl, rfl, h0, h1, h2⟩ := h
  generalize b % 18446744073709551616 = D at *
  rw [Int.pow_zero, Int.ediv_one] at h2
  rw [Int.pow_zero, Int.mul_one, ← h2]
  have e1 : (Q * D + R) / D = Q := by
    rw [Int.add_comm, Int.add_mul_ediv_right _ _ (by omega), Int.ediv_eq_zero_of_lt h0 h1, Int.zero_add]
  have e2 : (Q * D + R) % D = R := by
    rw [Int.add_comm, Int.add_mul_emod_self_right, Int.emod_eq_of_lt h0 h1]
  rw [e1, e2]
  exact ⟨rfl, rfl⟩
end Go.Proofs.Ytmommjagndadjaa
namespace Go.Proofs.Ytmommjagndadjaa
open Go.RowKit
set_option linter.unusedSimpArgs false
set_option linter.unusedVariables false
set_option maxRecDepth 100000

def bitI (n : Int) (i : Nat) : Int := n / 2 ^ i % 2
theorem pow_pos' (i : Nat) : (0 : Int) < 2 ^ i := Int.pow_pos (by decide)
theorem bitI_bd (n : Int) (i : Nat) : 0 ≤ bitI n i ∧ bitI n i ≤ 1 := by unfold bitI; omega
theorem bitI_mod (n : Int) (m i : Nat) (h : i < m) : bitI (n % 2 ^ m) i = bitI n i := mod_bit m n i h
theorem mod_succ (n : Int) (m : Nat) : n % 2 ^ (m + 1) = n % 2 ^ m + bitI n m * 2 ^ m := by
  have h0 := pow_pos' m
  have h1 := Int.mul_ediv_add_emod n (2 ^ m)
  have h2 := Int.mul_ediv_add_emod (n / 2 ^ m) 2
  have h3 := Int.emod_lt_of_pos n h0
  have h4 := Int.emod_nonneg n (show (2 : Int) ^ m ≠ 0 by omega)
  have hb := bitI_bd n m
  have e : n = (n % 2 ^ m + bitI n m * 2 ^ m) + (n / 2 ^ m / 2) * 2 ^ (m + 1) := by
    have e1 : n / 2 ^ m = 2 * (n / 2 ^ m / 2) + bitI n m := by unfold bitI; omega
    have e2 : (n / 2 ^ m / 2) * 2 ^ (m + 1) = 2 ^ m * (2 * (n / 2 ^ m / 2)) := by
      rw [Int.pow_succ]; generalize n / 2 ^ m / 2 = t; rw [Int.mul_comm t, Int.mul_assoc]
    have e3 : 2 ^ m * (n / 2 ^ m) = 2 ^ m * (2 * (n / 2 ^ m / 2)) + 2 ^ m * bitI n m := by rw [← Int.mul_add, ← e1]
    rw [e2, Int.mul_comm (bitI n m)]
    omega
  have hlt : bitI n m * 2 ^ m ≤ 2 ^ m := by
    rcases (show bitI n m = 0 ∨ bitI n m = 1 by omega) with h | h <;> rw [h] <;> omega
  have hnn : 0 ≤ bitI n m * 2 ^ m := Int.mul_nonneg hb.1 (by omega)
  conv => lhs; rw [e]
  rw [Int.add_mul_emod_self_right]
  apply Int.emod_eq_of_lt
  · omega
  · rw [Int.pow_succ]; omega
theorem fromS_eq (l : List Int) (N : Int) (m : Nat) (hm : m ≤ 63) (h : ∀ i, i < m → l.getD i 0 = bitI N i) : fromS l m = N % 2 ^ m := by
  induction m with
  | zero => simp [fromS]
  | succ m ih =>
    have h1 := ih (by omega) (fun i hi => h i (by omega))
    have h2 := h m (by omega)
    rw [mod_succ]
    unfold fromS
    rw [h2, if_neg (show ¬ m = 63 by omega), h1]
    have hb := bitI_bd N m
    rcases (show bitI N m = 0 ∨ bitI N m = 1 by omega) with h | h <;> rw [h] <;> simp
theorem fromS_mod (l : List Int) (N : Int) (m : Nat) (hm : m ≤ 64) (h : ∀ i, i < m → l.getD i 0 = bitI N i) : fromS l m % 2 ^ m = N % 2 ^ m ∧ I64 (fromS l m) := by
  by_cases h63 : m ≤ 63
  · rw [fromS_eq l N m h63 h]
    have h1 := Int.emod_lt_of_pos N (pow_pos' m)
    have h2 := Int.emod_nonneg N (show (2 : Int) ^ m ≠ 0 by have := pow_pos' m; omega)
    refine ⟨Int.emod_emod_of_dvd _ (Int.dvd_refl _), ?_⟩
    have h3 : (2 : Int) ^ m ≤ 9223372036854775808 := by
      have h1 : (2 : Nat) ^ m ≤ 2 ^ 63 := Nat.pow_le_pow_right (by decide) h63
      have h2 : ((2 ^ m : Nat) : Int) ≤ ((2 ^ 63 : Nat) : Int) := Int.ofNat_le.2 h1
      rw [Int.natCast_pow] at h2
      exact h2
    unfold I64; omega
  · obtain rfl : m = 64 := by omega
    have h1 := fromS_eq l N 63 (by decide) (fun i hi => h i (by omega))
    have h2 := h 63 (by omega)
    have h3 := mod_succ N 63
    have e63 : (2 : Int) ^ 63 = 9223372036854775808 := by decide
    have e64 : (2 : Int) ^ (63 + 1) = 18446744073709551616 := by decide
    have hb := bitI_bd N 63
    have e : fromS l 64 = if l.getD 63 0 = 0 then fromS l 63 else if (63 : Nat) = 63 then fromS l 63 + -9223372036854775808 else fromS l 63 + 2 ^ 63 := rfl
    rw [h2, h1, e63] at e
    rw [e63, e64] at h3
    rw [if_pos rfl] at e
    have e64' : (2 : Int) ^ 64 = 18446744073709551616 := by decide
    rw [e64', e]
    rcases (show bitI N 63 = 0 ∨ bitI N 63 = 1 by omega) with hh | hh
    · rw [hh] at h3 ⊢
      simp only [if_true]
      unfold I64
      omega
    · rw [hh] at h3 ⊢
      simp only [show ¬ (1 : Int) = 0 by decide, if_false]
      unfold I64
      omega
theorem eq_of_mod64 {x y : Int} (hx : I64 x) (hy : I64 y) (h : x % 18446744073709551616 = y % 18446744073709551616) : x = y := by unfold I64 at hx hy; omega
theorem wkr_congr {k x y : Int} (hx : I64 x) (hy : I64 y) (h : x % 2 ^ wid k = y % 2 ^ wid k) : wkr k x = wkr k y := by
  have e1 : wid 1 = 1 := by decide
  have e2 : wid 2 = 8 := by decide
  have e3 : wid 3 = 16 := by decide
  have e4 : wid 4 = 32 := by decide
  have e5 : wid 5 = 64 := by decide
  have e6 : wid 6 = 8 := by decide
  have e7 : wid 7 = 16 := by decide
  have e8 : wid 8 = 32 := by decide
  have e9 : wid 9 = 64 := by decide
  have p1 : (2 : Int) ^ 1 = 2 := by decide
  have p8 : (2 : Int) ^ 8 = 256 := by decide
  have p16 : (2 : Int) ^ 16 = 65536 := by decide
  have p32 : (2 : Int) ^ 32 = 4294967296 := by decide
  have p64 : (2 : Int) ^ 64 = 18446744073709551616 := by decide
  rcases kinds k with rfl | rfl | rfl | rfl | rfl | rfl | rfl | rfl | rfl | hk
  · rw [e1, p1] at h; rw [wkr_1, wkr_1, h]
  · rw [e2, p8] at h; rw [wkr_2, wkr_2]; omega
  · rw [e3, p16] at h; rw [wkr_3, wkr_3]; omega
  · rw [e4, p32] at h; rw [wkr_4, wkr_4]; omega
  · rw [e5, p64] at h; rw [wkr_5, wkr_5]; exact eq_of_mod64 hx hy h
  · rw [e6, p8] at h; rw [wkr_6, wkr_6]; omega
  · rw [e7, p16] at h; rw [wkr_7, wkr_7]; omega
  · rw [e8, p32] at h; rw [wkr_8, wkr_8]; omega
  · rw [e9, p64] at h; rw [wkr_9, wkr_9]; exact eq_of_mod64 hx hy h
  · rw [wkr_none _ hk, wkr_none _ hk]
/-- What a list of bits is, if it has the bits of a number. -/
theorem wkr_fromS {k N : Int} (l : List Int) (hN : I64 N) (h : ∀ i, i < wid k → l.getD i 0 = bitI N i) : wkr k (fromS l (wid k)) = wkr k N := by
  obtain ⟨h1, h2⟩ := fromS_mod l N (wid k) (wid_le k) h
  exact wkr_congr h2 hN h1
theorem bitI_nat (N i : Nat) : bitI (N : Int) i = if N.testBit i then 1 else 0 := by
  have h : bitI (N : Int) i = ((N / 2 ^ i % 2 : Nat) : Int) := by unfold bitI; simp
  rw [h, Nat.testBit_eq_decide_div_mod_eq]
  have : N / 2 ^ i % 2 = 0 ∨ N / 2 ^ i % 2 = 1 := by omega
  rcases this with h | h <;> simp [h]
theorem bitI_ofInt (a : Int) (i : Nat) (hi : i < 64) : bitI a i = if (BitVec.ofInt 64 a).toNat.testBit i then 1 else 0 := by
  rw [← bitI_nat, BitVec.toNat_ofInt]
  have h : (((a % ((2 ^ 64 : Nat) : Int)).toNat : Nat) : Int) = a % 2 ^ 64 := by
    have := Int.emod_nonneg a (show ((2 ^ 64 : Nat) : Int) ≠ 0 by decide)
    rw [Int.toNat_of_nonneg this]; rfl
  rw [h, bitI_mod a 64 i hi]
theorem bitI_wrap (n : Int) (i : Nat) (hi : i < 64) : bitI (IntKind.i64.wrap n) i = bitI n i := by
  rw [← bitI_mod _ 64 i hi, ← bitI_mod n 64 i hi]
  congr 1
  have e64 : (2 : Int) ^ 64 = 18446744073709551616 := by decide
  rw [e64, IntKind.wrap_i64]; omega
theorem wrapI64 (n : Int) : I64 (IntKind.i64.wrap n) := by rw [IntKind.wrap_i64]; unfold I64; omega
theorem bitI_and (a b : Int) (i : Nat) (hi : i < 64) : bitI (bits .and .i64 a b) i = bitI a i * bitI b i := by
  rw [bits_and64, bitI_wrap _ i hi, bitI_nat, BitVec.toNat_and, Nat.testBit_and, bitI_ofInt a i hi, bitI_ofInt b i hi]
  cases (BitVec.ofInt 64 a).toNat.testBit i <;> cases (BitVec.ofInt 64 b).toNat.testBit i <;> rfl
theorem bitI_or (a b : Int) (i : Nat) (hi : i < 64) : bitI (bits .or .i64 a b) i = if bitI b i = 1 then 1 else bitI a i := by
  rw [bits_or64, bitI_wrap _ i hi, bitI_nat, BitVec.toNat_or, Nat.testBit_or, bitI_ofInt a i hi, bitI_ofInt b i hi]
  cases (BitVec.ofInt 64 a).toNat.testBit i <;> cases (BitVec.ofInt 64 b).toNat.testBit i <;> rfl
theorem bitI_xor (a b : Int) (i : Nat) (hi : i < 64) : bitI (bits .xor .i64 a b) i = (bitI a i + bitI b i) % 2 := by
  rw [bits_xor64, bitI_wrap _ i hi, bitI_nat, BitVec.toNat_xor, Nat.testBit_xor, bitI_ofInt a i hi, bitI_ofInt b i hi]
  cases (BitVec.ofInt 64 a).toNat.testBit i <;> cases (BitVec.ofInt 64 b).toNat.testBit i <;> rfl
theorem bitsI64 (o : BinOp) (a b : Int) (h : o = .and ∨ o = .or ∨ o = .xor) : I64 (bits o .i64 a b) := by
  rcases h with rfl | rfl | rfl
  · rw [bits_and64]; exact wrapI64 _
  · rw [bits_or64]; exact wrapI64 _
  · rw [bits_xor64]; exact wrapI64 _
theorem bitI_neg1 (i : Nat) : bitI (-1) i = 1 := by
  unfold bitI
  have h0 := pow_pos' i
  have : (-1 : Int) / 2 ^ i = -1 := by
    have h := Int.ediv_emod_unique (a := -1) (r := 2 ^ i - 1) (q := -1) h0
    exact (h.2 ⟨by omega, by omega, by omega⟩).1
  rw [this]; rfl
theorem bitsL_getD (m : Nat) (n : Int) (i : Nat) (hi : i < m) : (bitsL m n).getD i 0 = bitI n i := by
  simp [bitsL, List.getD_eq_getElem?_getD, hi, bitI]

def bitOp (op x y : Int) : Int := if op = 8 then x * y else if op = 9 then (if y = 1 then 1 else x) else (x + y) % 2
theorem bitsL_bit (m : Nat) (n : Int) (j : Nat) (x : Int) (h : (bitsL m n)[j]? = some x) : 0 ≤ x ∧ x ≤ 1 := by
  simp only [bitsL, List.getElem?_map] at h
  cases h2 : (List.range m)[j]? with
  | none => simp [h2] at h
  | some i => simp [h2] at h; omega
theorem zip_getD (f : Int → Int → Int) (m : Nat) (a b : Int) (i : Nat) (hi : i < m) : (List.zipWith f (bitsL m a) (bitsL m b)).getD i 0 = f (bitI a i) (bitI b i) := by
  simp [bitsL, List.getD_eq_getElem?_getD, hi, bitI]
theorem law_and (k a b : Int) : wkr k (fromS (List.zipWith (bitOp 8) (bitsL (wid k) a) (bitsL (wid k) b)) (wid k)) = wkr k (bits .and .i64 a b) :=
  wkr_fromS _ (bitsI64 _ _ _ (by simp)) fun i hi => by rw [zip_getD _ _ _ _ _ hi, bitI_and _ _ _ (Nat.lt_of_lt_of_le hi (wid_le k))]; rfl
theorem law_or (k a b : Int) : wkr k (fromS (List.zipWith (bitOp 9) (bitsL (wid k) a) (bitsL (wid k) b)) (wid k)) = wkr k (bits .or .i64 a b) :=
  wkr_fromS _ (bitsI64 _ _ _ (by simp)) fun i hi => by rw [zip_getD _ _ _ _ _ hi, bitI_or _ _ _ (Nat.lt_of_lt_of_le hi (wid_le k))]; rfl
theorem law_xor (k a b : Int) : wkr k (fromS (List.zipWith (bitOp 10) (bitsL (wid k) a) (bitsL (wid k) b)) (wid k)) = wkr k (bits .xor .i64 a b) :=
  wkr_fromS _ (bitsI64 _ _ _ (by simp)) fun i hi => by rw [zip_getD _ _ _ _ _ hi, bitI_xor _ _ _ (Nat.lt_of_lt_of_le hi (wid_le k))]; rfl
theorem law_not (k a : Int) : wkr k (fromS ((bitsL (wid k) a).map (fun x => 1 - x)) (wid k)) = wkr k (bits .xor .i64 (-1) a) :=
  wkr_fromS _ (bitsI64 _ _ _ (by simp)) fun i hi => by
    rw [bitI_xor _ _ _ (Nat.lt_of_lt_of_le hi (wid_le k)), bitI_neg1]
    have h1 : ((bitsL (wid k) a).map (fun x => 1 - x)).getD i 0 = 1 - bitI a i := by simp [bitsL, List.getD_eq_getElem?_getD, hi, bitI]
    rw [h1]
    have := bitI_bd a i
    omega
theorem isk_one {a : Int} (h : isk 1 a = true) : a = 0 ∨ a = 1 := by
  simp only [isk, Bool.and_eq_true, beq_iff_eq, wkr_1] at h
  omega
theorem law_not1 {a : Int} (h : isk 1 a = true) : wkr 1 (bits .xor .i64 (-1) a) = wrap64 (1 - a) := by
  rcases isk_one h with rfl | rfl <;> decide +kernel
theorem law_imp {a b : Int} (hb : isk 1 b = true) : (a == 0 || b == 1) = (a == 0 || b != 0) := by
  rcases isk_one hb with rfl | rfl <;> rfl

theorem law_div9 (a b : Int) (_hb : b % 18446744073709551616 ≠ 0) : wrap64 (IntKind.u64.wrap ((IntKind.u64.wrap a).tdiv (IntKind.u64.wrap b))) = wrap64 (a % 18446744073709551616 / (b % 18446744073709551616)) := by
  have h1 : 0 ≤ a % 18446744073709551616 := by omega
  have h2 : 0 ≤ b % 18446744073709551616 := by omega
  apply wrap64_congr
  simp only [u64_eq]
  rw [Int.tdiv_eq_ediv_of_nonneg h1]
  omega
theorem law_mod9 (a b : Int) : wrap64 ((IntKind.u64.wrap a).tmod (IntKind.u64.wrap b)) = wrap64 (a % 18446744073709551616 % (b % 18446744073709551616)) := by
  have h1 : 0 ≤ a % 18446744073709551616 := by omega
  simp only [u64_eq]
  rw [Int.tmod_eq_emod_of_nonneg h1]

theorem movAt_shl (m : Nat) (X : List Int) (U : Int) (i : Nat) (hU : 0 ≤ U) (hi : i < m) : movAt 12 m X U 0 i = if (i : Int) < U then 0 else if U < m then X.getD ((i : Int) - U).toNat 0 else 0 := by
  unfold movAt
  simp only [movFrom, show ¬ ((12 : Int) = 13) by decide, if_false]
  by_cases h1 : (i : Int) < U
  · rw [if_neg (by omega), if_pos h1]
  · rw [if_neg h1]
    by_cases h2 : U < m
    · rw [if_pos (by omega), if_pos h2]
    · rw [if_neg (by omega), if_neg h2]
theorem bitI_shl (a : Int) (u i : Nat) : bitI (a * 2 ^ u) i = if i < u then 0 else bitI a (i - u) := by
  unfold bitI
  have h0 := pow_pos' i
  by_cases h : i < u
  · rw [if_pos h]
    obtain ⟨d, rfl⟩ := Nat.le.dest (show i + 1 ≤ u by omega)
    have e : a * 2 ^ (i + 1 + d) = (2 * (a * 2 ^ d)) * 2 ^ i := by
      rw [Int.pow_add, Int.pow_succ]
      simp only [Int.mul_assoc, Int.mul_comm, Int.mul_left_comm]
    rw [e, Int.mul_ediv_cancel _ (by omega)]
    omega
  · rw [if_neg h]
    obtain ⟨d, rfl⟩ := Nat.le.dest (show u ≤ i by omega)
    have hu := pow_pos' u
    rw [show u + d - u = d by omega, Int.pow_add, ← Int.ediv_ediv_of_nonneg (by omega), Int.mul_ediv_cancel _ (by omega)]
theorem movedL_getD (op : Int) (m : Nat) (X : List Int) (U f0 : Int) (i : Nat) (hi : i < m) : (movedL op m X U f0).getD i 0 = movAt op m X U f0 i := by
  simp [movedL, List.getD_eq_getElem?_getD, hi]
theorem ubits_eq (k n : Int) : ubits k n = n % 2 ^ wid k := rfl
theorem law_shl (k a b : Int) : wkr k (fromS (movedL 12 (wid k) (bitsL (wid k) a) (b % 2 ^ wid k) 0) (wid k)) = wkr k (shlv k a k b) := by
  have hU0 : 0 ≤ b % 2 ^ wid k := Int.emod_nonneg _ (by have := pow_pos' (wid k); omega)
  have hw := width_wid k
  apply wkr_fromS
  · unfold shlv; split
    · unfold I64; omega
    · exact wrap64_I64 _
  intro i hi
  rw [movedL_getD _ _ _ _ _ _ hi, movAt_shl _ _ _ _ hU0 hi]
  unfold shlv
  rw [ubits_eq, ubits_eq, hw]
  obtain ⟨u, hu⟩ := Int.eq_ofNat_of_zero_le hU0
  rw [hu]
  by_cases h : (wid k : Int) ≤ (u : Int)
  · rw [if_pos h, if_pos (by omega)]; unfold bitI; simp
  · rw [if_neg h, Int.toNat_natCast]
    have hi64 : i < 64 := Nat.lt_of_lt_of_le hi (wid_le k)
    have e : bitI (wrap64 (IntKind.u64.wrap (a % 2 ^ wid k * 2 ^ u))) i = bitI (a % 2 ^ wid k * 2 ^ u) i := by
      rw [← bitI_mod _ 64 i hi64, ← bitI_mod (a % 2 ^ wid k * 2 ^ u) 64 i hi64]
      congr 1
      have e64 : (2 : Int) ^ 64 = 18446744073709551616 := by decide
      rw [e64, wrap64_mod, u64_eq]; omega
    rw [e, bitI_shl]
    by_cases h2 : i < u
    · rw [if_pos (by omega), if_pos h2]
    · rw [if_neg (by omega), if_neg h2, if_pos (by omega), show ((i : Int) - (u : Int)).toNat = i - u by omega, bitsL_getD _ _ _ (by omega), bitI_mod _ _ _ (by omega)]
theorem bitI_shr (a : Int) (u i : Nat) : bitI (a / 2 ^ u) i = bitI a (i + u) := by
  unfold bitI
  rw [Int.ediv_ediv_of_nonneg (Int.pow_nonneg (by decide)), ← Int.pow_add, Nat.add_comm]
theorem movAt_shr (m : Nat) (X : List Int) (U f0 : Int) (i : Nat) (hU : 0 ≤ U) : movAt 13 m X U f0 i = if (i : Int) + U < m then X.getD ((i : Int) + U).toNat 0 else f0 := by
  unfold movAt
  simp only [movFrom, if_true]
  by_cases h1 : (i : Int) + U < m
  · rw [if_pos (by omega), if_pos h1]
  · rw [if_neg (by omega), if_neg h1]
theorem bitI_big {a : Int} {m j : Nat} (h0 : 0 ≤ a) (h1 : a < 2 ^ m) (hj : m ≤ j) : bitI a j = 0 := by
  unfold bitI
  have h2 : (2 : Int) ^ m ≤ 2 ^ j := by
    obtain ⟨d, rfl⟩ := Nat.le.dest hj
    rw [Int.pow_add]
    have := pow_pos' d; have := pow_pos' m
    have := Int.mul_le_mul_of_nonneg_left (show (1 : Int) ≤ 2 ^ d by omega) (show 0 ≤ (2 : Int) ^ m by omega)
    omega
  rw [Int.ediv_eq_zero_of_lt h0 (by omega)]; rfl
theorem law_shr_u (k a b : Int) (hs : sgn k = false) : wkr k (fromS (movedL 13 (wid k) (bitsL (wid k) a) (b % 2 ^ wid k) 0) (wid k)) = wkr k (shrv k a k b) := by
  have hU0 : 0 ≤ b % 2 ^ wid k := Int.emod_nonneg _ (by have := pow_pos' (wid k); omega)
  have hA0 : 0 ≤ a % 2 ^ wid k := Int.emod_nonneg _ (by have := pow_pos' (wid k); omega)
  have hA1 : a % 2 ^ wid k < 2 ^ wid k := Int.emod_lt_of_pos _ (pow_pos' _)
  have hw := width_wid k
  have e : shrv k a k b = wrap64 (a % 2 ^ wid k / 2 ^ (shrBy k k b).toNat) := by unfold shrv; rw [hs]; rfl
  rw [e]
  apply wkr_fromS _ (wrap64_I64 _)
  intro i hi
  have hi64 : i < 64 := Nat.lt_of_lt_of_le hi (wid_le k)
  have e2 : bitI (wrap64 (a % 2 ^ wid k / 2 ^ (shrBy k k b).toNat)) i = bitI (a % 2 ^ wid k / 2 ^ (shrBy k k b).toNat) i := by
    rw [← bitI_mod _ 64 i hi64, ← bitI_mod (a % 2 ^ wid k / 2 ^ (shrBy k k b).toNat) 64 i hi64]
    congr 1
    have e64 : (2 : Int) ^ 64 = 18446744073709551616 := by decide
    rw [e64, wrap64_mod]
  rw [e2, bitI_shr, movedL_getD _ _ _ _ _ _ hi, movAt_shr _ _ _ _ _ hU0]
  obtain ⟨u, hu⟩ := Int.eq_ofNat_of_zero_le hU0
  have hb : shrBy k k b = if (wid k : Int) ≤ u then 64 else (u : Int) := by unfold shrBy; rw [ubits_eq, hu, hw]
  rw [hu, hb]
  by_cases h : (wid k : Int) ≤ (u : Int)
  · rw [if_pos h, if_neg (by omega)]
    exact (bitI_big hA0 hA1 (by have := wid_le k; show wid k ≤ i + (64 : Int).toNat; omega)).symm
  · rw [if_neg h, Int.toNat_natCast]
    by_cases h2 : (i : Int) + u < wid k
    · rw [if_pos h2, show ((i : Int) + (u : Int)).toNat = i + u by omega, bitsL_getD _ _ _ (by omega), bitI_mod _ _ _ (by omega)]
    · rw [if_neg h2]
      exact (bitI_big hA0 hA1 (by omega)).symm
/-- A signed value's bits from its sign on. -/
theorem bitI_sign {a : Int} {m j : Nat} (h0 : -(2 ^ m) ≤ a) (h1 : a < 2 ^ m) (hj : m ≤ j) : bitI a j = if a < 0 then 1 else 0 := by
  by_cases h : a < 0
  · rw [if_pos h]
    unfold bitI
    have h2 : (2 : Int) ^ m ≤ 2 ^ j := by
      obtain ⟨d, rfl⟩ := Nat.le.dest hj
      rw [Int.pow_add]
      have := pow_pos' d; have := pow_pos' m
      have := Int.mul_le_mul_of_nonneg_left (show (1 : Int) ≤ 2 ^ d by omega) (show 0 ≤ (2 : Int) ^ m by omega)
      omega
    have h3 : a / 2 ^ j = -1 := by
      have h := Int.ediv_emod_unique (a := a) (r := a + 2 ^ j) (q := -1) (pow_pos' j)
      exact (h.2 ⟨by omega, by omega, by omega⟩).1
    rw [h3]; rfl
  · rw [if_neg h]; exact bitI_big (by omega) h1 hj
theorem isk_signed {k a : Int} (hs : sgn k = true) (h : isk k a = true) : ∃ m, wid k = m + 1 ∧ -(2 ^ m) ≤ a ∧ a < 2 ^ m ∨ k = 5 := by
  simp only [sgn, Bool.and_eq_true, decide_eq_true_eq] at hs
  simp only [isk, Bool.and_eq_true, beq_iff_eq] at h
  have p7 : (2 : Int) ^ 7 = 128 := by decide
  have p15 : (2 : Int) ^ 15 = 32768 := by decide
  have p31 : (2 : Int) ^ 31 = 2147483648 := by decide
  rcases (show k = 2 ∨ k = 3 ∨ k = 4 ∨ k = 5 by omega) with rfl | rfl | rfl | rfl
  · rw [wkr_2] at h; exact ⟨7, .inl ⟨by decide, by omega, by omega⟩⟩
  · rw [wkr_3] at h; exact ⟨15, .inl ⟨by decide, by omega, by omega⟩⟩
  · rw [wkr_4] at h; exact ⟨31, .inl ⟨by decide, by omega, by omega⟩⟩
  · exact ⟨0, .inr rfl⟩
theorem signed_bd {k a : Int} (ha : I64 a) (hs : sgn k = true) (h : isk k a = true) : ∃ m, wid k = m + 1 ∧ -(2 ^ m) ≤ a ∧ a < 2 ^ m := by
  obtain ⟨m, h1 | rfl⟩ := isk_signed hs h
  · exact ⟨m, h1⟩
  · refine ⟨63, by decide, ?_⟩
    have p63 : (2 : Int) ^ 63 = 9223372036854775808 := by decide
    unfold I64 at ha; rw [p63]; omega
theorem law_shr_s (k a b : Int) (ha : I64 a) (hs : sgn k = true) (hi : isk k a = true) : wkr k (fromS (movedL 13 (wid k) (bitsL (wid k) a) (b % 2 ^ wid k) (if a < 0 then 1 else 0)) (wid k)) = wkr k (shrv k a k b) := by
  have hU0 : 0 ≤ b % 2 ^ wid k := Int.emod_nonneg _ (by have := pow_pos' (wid k); omega)
  have hw := width_wid k
  obtain ⟨m, hm, hm0, hm1⟩ := signed_bd ha hs hi
  have e : shrv k a k b = a / 2 ^ (shrBy k k b).toNat := by unfold shrv; rw [hs]; rfl
  rw [e]
  have hI : ∀ s : Nat, I64 (a / 2 ^ s) := fun s => by
    have hp := pow_pos' s
    unfold I64 at ha ⊢
    by_cases h : 0 ≤ a
    · have h1 := Int.ediv_nonneg h (show 0 ≤ (2 : Int) ^ s by omega)
      have h2 := Int.ediv_le_self (2 ^ s) h
      omega
    · have h1 : a ≤ a / 2 ^ s := by
        have h3 := Int.mul_ediv_add_emod a (2 ^ s)
        have h4 := Int.emod_nonneg a (show (2 : Int) ^ s ≠ 0 by omega)
        have h5 := Int.emod_lt_of_pos a hp
        have h6 : a / 2 ^ s < 0 := Int.ediv_neg_of_neg_of_pos (by omega) hp
        have h7 : 2 ^ s * (a / 2 ^ s + 1) ≤ 1 * (a / 2 ^ s + 1) := Int.mul_le_mul_of_nonpos_right (show (1 : Int) ≤ 2 ^ s by omega) (show a / 2 ^ s + 1 ≤ 0 by omega)
        rw [Int.mul_add] at h7
        omega
      have h2 : a / 2 ^ s < 0 := Int.ediv_neg_of_neg_of_pos (by omega) hp
      omega
  apply wkr_fromS _ (hI _)
  intro i hi'
  rw [bitI_shr, movedL_getD _ _ _ _ _ _ hi', movAt_shr _ _ _ _ _ hU0]
  obtain ⟨u, hu⟩ := Int.eq_ofNat_of_zero_le hU0
  have hb : shrBy k k b = if (wid k : Int) ≤ u then 64 else (u : Int) := by unfold shrBy; rw [ubits_eq, hu, hw]
  rw [hu, hb]
  by_cases h : (wid k : Int) ≤ (u : Int)
  · rw [if_pos h, if_neg (by omega)]
    exact (bitI_sign hm0 hm1 (by have := wid_le k; show m ≤ i + (64 : Int).toNat; omega)).symm
  · rw [if_neg h, Int.toNat_natCast]
    by_cases h2 : (i : Int) + u < wid k
    · rw [if_pos h2, show ((i : Int) + (u : Int)).toNat = i + u by omega, bitsL_getD _ _ _ (by omega)]
    · rw [if_neg h2]
      exact (bitI_sign hm0 hm1 (by omega)).symm
end Go.Proofs.Ytmommjagndadjaa
namespace Go.Proofs.Ytmommjagndadjaa
open Go.RowKit
set_option linter.unusedSimpArgs false
set_option linter.unusedVariables false
set_option maxRecDepth 100000

theorem wkr_I64 {k n : Int} (h : I64 n) : I64 (wkr k n) := by
  unfold I64 at *
  rcases kinds k with rfl | rfl | rfl | rfl | rfl | rfl | rfl | rfl | rfl | hk
  · rw [wkr_1]; omega
  · rw [wkr_2]; omega
  · rw [wkr_3]; omega
  · rw [wkr_4]; omega
  · rw [wkr_5]; omega
  · rw [wkr_6]; omega
  · rw [wkr_7]; omega
  · rw [wkr_8]; omega
  · rw [wkr_9]; omega
  · rw [wkr_none _ hk]; omega
theorem wkr_wkr (k n : Int) : wkr k (wkr k n) = wkr k n := by
  rcases kinds k with rfl | rfl | rfl | rfl | rfl | rfl | rfl | rfl | rfl | hk
  · rw [wkr_1, wkr_1]; omega
  · rw [wkr_2, wkr_2]; omega
  · rw [wkr_3, wkr_3]; omega
  · rw [wkr_4, wkr_4]; omega
  · rw [wkr_5, wkr_5]
  · rw [wkr_6, wkr_6]; omega
  · rw [wkr_7, wkr_7]; omega
  · rw [wkr_8, wkr_8]; omega
  · rw [wkr_9, wkr_9]
  · rw [wkr_none _ hk, wkr_none _ hk]
theorem isk_iff {k n : Int} : isk k n = true ↔ 0 < wid k ∧ wkr k n = n := by
  have := width_wid k
  simp only [isk, Bool.and_eq_true, decide_eq_true_eq, beq_iff_eq]
  omega
theorem isk_wkr {k : Int} (n : Int) (h : 0 < wid k) : isk k (wkr k n) = true := isk_iff.2 ⟨h, wkr_wkr k n⟩
theorem isk_none {k : Int} (n : Int) (h : ¬ 0 < wid k) : isk k n = false := by
  cases e : isk k n
  · rfl
  · exact absurd (isk_iff.1 e).1 h
theorem wid_1 : wid 1 = 1 := by decide
theorem wid_2 : wid 2 = 8 := by decide
theorem wid_3 : wid 3 = 16 := by decide
theorem wid_4 : wid 4 = 32 := by decide
theorem wid_5 : wid 5 = 64 := by decide
theorem wid_6 : wid 6 = 8 := by decide
theorem wid_7 : wid 7 = 16 := by decide
theorem wid_8 : wid 8 = 32 := by decide
theorem wid_9 : wid 9 = 64 := by decide
theorem pow_1 : (2 : Int) ^ 1 = 2 := by decide
theorem pow_8 : (2 : Int) ^ 8 = 256 := by decide
theorem pow_16 : (2 : Int) ^ 16 = 65536 := by decide
theorem pow_32 : (2 : Int) ^ 32 = 4294967296 := by decide
theorem pow_64 : (2 : Int) ^ 64 = 18446744073709551616 := by decide
theorem wkr_mod {k : Int} (n : Int) (h : 0 < wid k) : wkr k n % 2 ^ wid k = n % 2 ^ wid k := by
  rcases kinds k with rfl | rfl | rfl | rfl | rfl | rfl | rfl | rfl | rfl | hk
  · rw [wid_1, pow_1, wkr_1]; omega
  · rw [wid_2, pow_8, wkr_2]; omega
  · rw [wid_3, pow_16, wkr_3]; omega
  · rw [wid_4, pow_32, wkr_4]; omega
  · rw [wkr_5]
  · rw [wid_6, pow_8, wkr_6]; omega
  · rw [wid_7, pow_16, wkr_7]; omega
  · rw [wid_8, pow_32, wkr_8]; omega
  · rw [wkr_9]
  · have := width_wid k; omega
theorem isk_ext {k x y : Int} (hx : isk k x = true) (hy : isk k y = true) (ix : I64 x) (iy : I64 y) (h : x % 2 ^ wid k = y % 2 ^ wid k) : x = y := by
  rw [← (isk_iff.1 hx).2, ← (isk_iff.1 hy).2]
  exact wkr_congr ix iy h
theorem wrap64_modw (n : Int) (m : Nat) (h : m ≤ 64) : wrap64 n % 2 ^ m = n % 2 ^ m := by
  obtain ⟨d, hd⟩ := Nat.le.dest h
  have e : (2 : Int) ^ 64 = 2 ^ m * 2 ^ d := by rw [← Int.pow_add, hd]
  have h1 := wrap64_mod n
  rw [← pow_64, e] at h1
  rw [← Int.emod_emod_of_dvd (wrap64 n) (⟨2 ^ d, rfl⟩ : (2 : Int) ^ m ∣ 2 ^ m * 2 ^ d), h1, Int.emod_emod_of_dvd _ ⟨2 ^ d, rfl⟩]
theorem add_congr {a b c d M : Int} (h1 : a % M = b % M) (h2 : c % M = d % M) : (a + c) % M = (b + d) % M := by rw [Int.add_emod, h1, h2, ← Int.add_emod]
theorem sub_congr {a b c d M : Int} (h1 : a % M = b % M) (h2 : c % M = d % M) : (a - c) % M = (b - d) % M := by rw [Int.sub_emod, h1, h2, ← Int.sub_emod]
theorem mul_congr {a b c d M : Int} (h1 : a % M = b % M) (h2 : c % M = d % M) : (a * c) % M = (b * d) % M := by rw [Int.mul_emod, h1, h2, ← Int.mul_emod]
theorem bits_ext {m : Nat} {x y : Int} (h : ∀ i, i < m → bitI x i = bitI y i) : x % 2 ^ m = y % 2 ^ m := by
  induction m with
  | zero => simp [Int.emod_one]
  | succ m ih => rw [mod_succ, mod_succ, ih (fun i hi => h i (by omega)), h m (by omega)]
theorem bitI_congr {m i : Nat} {x y : Int} (hi : i < m) (h : x % 2 ^ m = y % 2 ^ m) : bitI x i = bitI y i := by rw [← bitI_mod x m i hi, ← bitI_mod y m i hi, h]

/-- A kind of numbers. -/
def Num (k : Int) : Prop := 2 ≤ k ∧ k ≤ 9
theorem Num.wid {k : Int} (h : Num k) : 0 < wid k := by
  unfold Num at h
  rcases (show k = 2 ∨ k = 3 ∨ k = 4 ∨ k = 5 ∨ k = 6 ∨ k = 7 ∨ k = 8 ∨ k = 9 by omega) with rfl | rfl | rfl | rfl | rfl | rfl | rfl | rfl <;> decide
theorem Num.ne {k : Int} (h : Num k) : (k == 1) = false := by unfold Num at h; simp; omega
theorem fits_k {k : Int} (hk : (k == 1) = false) (n : Int) : fitsv n k = (bits .and .i64 n 2 != 0) := by
  have : k ≠ 1 := by simpa using hk
  simp [fitsv, this]
theorem fits_b (n : Int) : fitsv n 1 = (bits .and .i64 n 1 != 0) := by simp [fitsv]
theorem f21 : (bits .and .i64 2 1 != 0) = false := by decide +kernel
theorem f31 : (bits .and .i64 3 1 != 0) = true := by decide +kernel
theorem f11 : (bits .and .i64 1 1 != 0) = true := by decide +kernel
theorem f22 : (bits .and .i64 2 2 != 0) = true := by decide +kernel
theorem f32 : (bits .and .i64 3 2 != 0) = true := by decide +kernel
theorem f12 : (bits .and .i64 1 2 != 0) = false := by decide +kernel
theorem f01 : (bits .and .i64 0 1 != 0) = false := by decide +kernel
theorem f02 : (bits .and .i64 0 2 != 0) = false := by decide +kernel
theorem binv_no {op k a b : Int} (h : binOk op k a b = false) : binv op k a b = (0, 0, false) := by simp [binv, h]
theorem binv_yes {op k a b : Int} (h : binOk op k a b = true) : binv op k a b = ((binr op.toNat k a b).1, (binr op.toNat k a b).2, true) := by simp [binv, h]
theorem Num.ok {k a b : Int} (h : Num k) (n : Nat) (hn : opOf n = 2 ∨ opOf n = 3) (ha : isk k a = true) (hb : isk k b = true) : binOk (n : Int) k a b = true := by
  rcases hn with hn | hn <;> simp [binOk, ha, hb, fits_k h.ne, hn, f22, f32]

def dov (op k a b : Int) : Int := (binv op k (wkr k a) (wkr k b)).1
theorem dov_eq {k : Int} (h : Num k) (n : Nat) (hn : opOf n = 2 ∨ opOf n = 3) (a b : Int) : dov n k a b = (binr n k (wkr k a) (wkr k b)).1 := by
  unfold dov
  rw [binv_yes (h.ok n hn (isk_wkr _ h.wid) (isk_wkr _ h.wid))]; rfl
theorem divv_I64 {k a b : Int} (_ha : I64 a) (_hb : I64 b) : I64 (divv k a b) := by
  unfold divv; split
  · unfold I64; omega
  · split
    · exact wrap64_I64 _
    · split <;> exact wrap64_I64 _
theorem tmod_I64 {a b : Int} (ha : I64 a) : I64 (a.tmod b) := by
  have h := @Int.natAbs_tmod a b
  have h2 := Nat.mod_le a.natAbs b.natAbs
  have h3 := @Int.tmod_eq_emod a b
  have h4 : a < 0 → a.tmod b ≤ 0 := by
    intro h0
    by_cases hd : b ∣ a
    · rw [if_pos (.inr hd)] at h3
      rw [h3, Int.emod_eq_zero_of_dvd hd]; decide
    · rw [if_neg (by rintro (h | h); · omega
                     · exact hd h)] at h3
      by_cases hb : b = 0
      · subst hb; rw [Int.tmod_zero]; omega
      · have := Int.emod_lt a hb
        omega
  unfold I64 at *
  omega
theorem modv_I64 {k a b : Int} (ha : I64 a) : I64 (modv k a b) := by
  unfold modv; split
  · unfold I64; omega
  · split
    · exact wrap64_I64 _
    · split
      · unfold I64; omega
      · exact tmod_I64 ha
theorem shlv_I64 (k a l b : Int) : I64 (shlv k a l b) := by
  unfold shlv; split
  · unfold I64; omega
  · exact wrap64_I64 _
theorem ediv_I64 {a : Int} (ha : I64 a) (s : Nat) : I64 (a / 2 ^ s) := by
  have hp := pow_pos' s
  unfold I64 at ha ⊢
  by_cases h : 0 ≤ a
  · have h1 := Int.ediv_nonneg h (show 0 ≤ (2 : Int) ^ s by omega)
    have h2 := Int.ediv_le_self (2 ^ s) h
    omega
  · have h3 := Int.mul_ediv_add_emod a (2 ^ s)
    have h4 := Int.emod_nonneg a (show (2 : Int) ^ s ≠ 0 by omega)
    have h5 := Int.emod_lt_of_pos a hp
    have h6 : a / 2 ^ s < 0 := Int.ediv_neg_of_neg_of_pos (by omega) hp
    have h7 : 2 ^ s * (a / 2 ^ s + 1) ≤ 1 * (a / 2 ^ s + 1) := Int.mul_le_mul_of_nonpos_right (show (1 : Int) ≤ 2 ^ s by omega) (show a / 2 ^ s + 1 ≤ 0 by omega)
    rw [Int.mul_add] at h7
    omega
theorem shrv_I64 {k a l b : Int} (ha : I64 a) : I64 (shrv k a l b) := by
  unfold shrv; split
  · exact ediv_I64 ha _
  · exact wrap64_I64 _
theorem tru_I64 (b : Bool) : I64 (tru b) := by cases b <;> (unfold I64; decide)
theorem isk_tru (b : Bool) : isk 1 (tru b) = true := by cases b <;> decide +kernel

theorem binr_I64 (n : Nat) {k a b : Int} (ha : I64 a) (hb : I64 b) : I64 (binr n k a b).1 := by
  unfold binr
  split
  all_goals first
    | exact wkr_I64 (wrap64_I64 _)
    | exact wkr_I64 (divv_I64 ha hb)
    | exact wkr_I64 (modv_I64 ha)
    | exact wkr_I64 (bitsI64 _ _ _ (by simp))
    | exact tru_I64 _
    | exact wkr_I64 (shlv_I64 _ _ _ _)
    | exact wkr_I64 (shrv_I64 ha)
    | (unfold I64; decide)
theorem binr_snd (n : Nat) (k a b c d : Int) : (binr n k a b).2 = (binr n k c d).2 := by
  unfold binr
  split <;> rfl
theorem binr_is (n : Nat) {k : Int} (a b : Int) (h : 0 < wid k) (hn : opOf n ≠ 0) : isk (binr n k a b).2 (binr n k a b).1 = true :=
  match n, hn with
  | 0, hn => absurd rfl hn
  | 1, hn => absurd rfl hn
  | 2, hn => absurd rfl hn
  | 3, _ => isk_wkr _ h
  | 4, _ => isk_wkr _ h
  | 5, _ => isk_wkr _ h
  | 6, _ => isk_wkr _ h
  | 7, _ => isk_wkr _ h
  | 8, _ => isk_wkr _ h
  | 9, _ => isk_wkr _ h
  | 10, _ => isk_wkr _ h
  | 11, _ => isk_tru _
  | 12, _ => isk_wkr _ h
  | 13, _ => isk_wkr _ h
  | 14, _ => isk_tru _
  | 15, _ => isk_tru _
  | 16, _ => isk_tru _
  | 17, _ => isk_tru _
  | 18, _ => isk_tru _
  | 19, _ => isk_tru _
  | n + 20, hn => absurd (opOf_big (n + 20) (by omega)) hn

theorem law_closed (op k a b c d : Int) :
    (binv op k (wkr k a) (wkr k b)).2.2 = (binv op k (wkr k c) (wkr k d)).2.2 ∧ (binv op k (wkr k a) (wkr k b)).2.1 = (binv op k (wkr k c) (wkr k d)).2.1 ∧
      ((binv op k (wkr k a) (wkr k b)).2.2 = false ∨ isk (binv op k (wkr k a) (wkr k b)).2.1 (binv op k (wkr k a) (wkr k b)).1 = true) := by
  by_cases hw : 0 < wid k
  · have e : binOk op k (wkr k a) (wkr k b) = binOk op k (wkr k c) (wkr k d) := by simp [binOk, isk_wkr _ hw]
    cases h : binOk op k (wkr k a) (wkr k b)
    · rw [binv_no h, binv_no (e ▸ h)]; simp
    · rw [binv_yes h, binv_yes (e ▸ h)]
      refine ⟨rfl, binr_snd _ _ _ _ _ _, .inr (binr_is _ _ _ hw ?_)⟩
      intro h0
      simp [binOk, h0, fits0] at h
  · have e : ∀ x y, binOk op k x y = false := fun x y => by simp [binOk, isk_none _ hw]
    rw [binv_no (e _ _), binv_no (e _ _)]; simp

theorem law_back (f t a : Int) (ha : I64 a) (h1 : (castv f t (wkr f a)).2 = true) (h2 : (castv t f (castv f t (wkr f a)).1).2 = true) (h3 : ¬ width t < width f) (h4 : t ≠ 1) :
    (castv t f (castv f t (wkr f a)).1).1 = wkr f a := by
  have hwt := width_wid t
  have hwf := width_wid f
  have hf : isk f (wkr f a) = true := by
    cases h : isk f (wkr f a)
    · simp [castv, h] at h1
    · rfl
  have hf0 := (isk_iff.1 hf).1
  have ht0 : 0 < wid t := by omega
  have e1 : castv f t (wkr f a) = (wkr t (wkr f a), true) := by
    unfold castv; rw [if_neg (by rw [hf]; simp; omega), if_neg h4]
  rw [e1] at h2 ⊢
  have hI := wkr_I64 (k := f) ha
  have hmod := wkr_mod (k := t) (wkr f a) ht0
  have hmf : wkr t (wkr f a) % 2 ^ wid f = wkr f a % 2 ^ wid f := by
    obtain ⟨d, hd⟩ := Nat.le.dest (show wid f ≤ wid t by omega)
    have e : (2 : Int) ^ wid t = 2 ^ wid f * 2 ^ d := by rw [← Int.pow_add, hd]
    rw [e] at hmod
    rw [← Int.emod_emod_of_dvd (wkr t (wkr f a)) (⟨2 ^ d, rfl⟩ : (2 : Int) ^ wid f ∣ 2 ^ wid f * 2 ^ d), hmod, Int.emod_emod_of_dvd _ ⟨2 ^ d, rfl⟩]
  have ht : isk t (wkr t (wkr f a)) = true := isk_wkr _ ht0
  have e2 : castv t f (wkr t (wkr f a)) = if f = 1 then (tru (wkr t (wkr f a) != 0), true) else (wkr f (wkr t (wkr f a)), true) := by
    unfold castv; rw [if_neg (by rw [ht]; simp; omega)]
  rw [e2]
  by_cases hf1 : f = 1
  · subst hf1
    rw [if_pos rfl]
    rw [wid_1, pow_1] at hmf
    rcases isk_one hf with h | h
    · rw [h] at hmod ⊢
      have : wkr t 0 = 0 := by
        rcases kinds t with rfl | rfl | rfl | rfl | rfl | rfl | rfl | rfl | rfl | hk <;> first | decide +kernel | exact wkr_none _ hk
      rw [this]; rfl
    · rw [h] at hmf ⊢
      have : wkr t 1 ≠ 0 := by omega
      show tru (wkr t 1 != 0) = 1
      simp [this, tru]
  · rw [if_neg hf1]
    show wkr f (wkr t (wkr f a)) = wkr f a
    rw [wkr_congr (wkr_I64 hI) hI hmf, wkr_wkr]
end Go.Proofs.Ytmommjagndadjaa
