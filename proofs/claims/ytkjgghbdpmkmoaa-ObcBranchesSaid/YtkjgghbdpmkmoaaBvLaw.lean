/-
  The plain law of chapter 1: bits as numbers. What the reference works out bit by bit is what the program's operations give.
  No condition but that numbers fit 64 bits.
-/
import Derived.Test.YtkjgghbdpmkmoaaDivPlain
namespace Go.Proofs.Ytkjgghbdpmkmoaa
open Go.RowKit
set_option linter.unusedSimpArgs false
set_option linter.unusedVariables false
set_option maxRecDepth 100000

def bitI (n : Int) (i : Nat) : Int := n / 2 ^ i % 2
theorem pow_pos' (i : Nat) : (0 : Int) < 2 ^ i := Int.pow_pos (by decide)
theorem bitI_bd (n : Int) (i : Nat) : 0 ≤ bitI n i ∧ bitI n i ≤ 1 := by unfold bitI; omega
theorem bitI_mod (n : Int) (m i : Nat) (h : i < m) : bitI (n % 2 ^ m) i = bitI n i := mod_bit m n i h
theorem mod_succ (n : Int) (m : Nat) : n % 2 ^ (m + 1) = n % 2 ^ m + bitI n m * 2 ^ m := by
  have h0 := pow_pos' m
  have h1 := Int.mul_ediv_add_emod n (2 ^ m)
  have h2 := Int.mul_ediv_add_emod (n / 2 ^ m) 2
  have h3 := Int.emod_lt_of_pos n h0
  have h4 := Int.emod_nonneg n (show (2 : Int) ^ m ≠ 0 by omega)
  have hb := bitI_bd n m
  have e : n = (n % 2 ^ m + bitI n m * 2 ^ m) + (n / 2 ^ m / 2) * 2 ^ (m + 1) := by
    have e1 : n / 2 ^ m = 2 * (n / 2 ^ m / 2) + bitI n m := by unfold bitI; omega
    have e2 : (n / 2 ^ m / 2) * 2 ^ (m + 1) = 2 ^ m * (2 * (n / 2 ^ m / 2)) := by
      rw [Int.pow_succ]; generalize n / 2 ^ m / 2 = t; rw [Int.mul_comm t, Int.mul_assoc]
    have e3 : 2 ^ m * (n / 2 ^ m) = 2 ^ m * (2 * (n / 2 ^ m / 2)) + 2 ^ m * bitI n m := by rw [← Int.mul_add, ← e1]
    rw [e2, Int.mul_comm (bitI n m)]
    omega
  have hlt : bitI n m * 2 ^ m ≤ 2 ^ m := by
    rcases (show bitI n m = 0 ∨ bitI n m = 1 by omega) with h | h <;> rw [h] <;> omega
  have hnn : 0 ≤ bitI n m * 2 ^ m := Int.mul_nonneg hb.1 (by omega)
  conv => lhs; rw [e]
  rw [Int.add_mul_emod_self_right]
  apply Int.emod_eq_of_lt
  · omega
  · rw [Int.pow_succ]; omega
theorem fromS_eq (l : List Int) (N : Int) (m : Nat) (hm : m ≤ 63) (h : ∀ i, i < m → l.getD i 0 = bitI N i) : fromS l m = N % 2 ^ m := by
  induction m with
  | zero => simp [fromS]
  | succ m ih =>
    have h1 := ih (by omega) (fun i hi => h i (by omega))
    have h2 := h m (by omega)
    rw [mod_succ]
    unfold fromS
    rw [h2, if_neg (show ¬ m = 63 by omega), h1]
    have hb := bitI_bd N m
    rcases (show bitI N m = 0 ∨ bitI N m = 1 by omega) with h | h <;> rw [h] <;> simp
theorem fromS_mod (l : List Int) (N : Int) (m : Nat) (hm : m ≤ 64) (h : ∀ i, i < m → l.getD i 0 = bitI N i) : fromS l m % 2 ^ m = N % 2 ^ m ∧ I64 (fromS l m) := by
  by_cases h63 : m ≤ 63
  · rw [fromS_eq l N m h63 h]
    have h1 := Int.emod_lt_of_pos N (pow_pos' m)
    have h2 := Int.emod_nonneg N (show (2 : Int) ^ m ≠ 0 by have := pow_pos' m; omega)
    refine ⟨Int.emod_emod_of_dvd _ (Int.dvd_refl _), ?_⟩
    have h3 : (2 : Int) ^ m ≤ 9223372036854775808 := by
      have h1 : (2 : Nat) ^ m ≤ 2 ^ 63 := Nat.pow_le_pow_right (by decide) h63
      have h2 : ((2 ^ m : Nat) : Int) ≤ ((2 ^ 63 : Nat) : Int) := Int.ofNat_le.2 h1
      rw [Int.natCast_pow] at h2
      exact h2
    unfold I64; omega
  · obtain rfl : m = 64 := by omega
    have h1 := fromS_eq l N 63 (by decide) (fun i hi => h i (by omega))
    have h2 := h 63 (by omega)
    have h3 := mod_succ N 63
    have e63 : (2 : Int) ^ 63 = 9223372036854775808 := by decide
    have e64 : (2 : Int) ^ (63 + 1) = 18446744073709551616 := by decide
    have hb := bitI_bd N 63
    have e : fromS l 64 = if l.getD 63 0 = 0 then fromS l 63 else if (63 : Nat) = 63 then fromS l 63 + -9223372036854775808 else fromS l 63 + 2 ^ 63 := rfl
    rw [h2, h1, e63] at e
    rw [e63, e64] at h3
    rw [if_pos rfl] at e
    have e64' : (2 : Int) ^ 64 = 18446744073709551616 := by decide
    rw [e64', e]
    rcases (show bitI N 63 = 0 ∨ bitI N 63 = 1 by omega) with hh | hh
    · rw [hh] at h3 ⊢
      simp only [if_true]
      unfold I64
      omega
    · rw [hh] at h3 ⊢
      simp only [show ¬ (1 : Int) = 0 by decide, if_false]
      unfold I64
      omega
theorem eq_of_mod64 {x y : Int} (hx : I64 x) (hy : I64 y) (h : x % 18446744073709551616 = y % 18446744073709551616) : x = y := by unfold I64 at hx hy; omega
theorem wkr_congr {k x y : Int} (hx : I64 x) (hy : I64 y) (h : x % 2 ^ wid k = y % 2 ^ wid k) : wkr k x = wkr k y := by
  have e1 : wid 1 = 1 := by decide
  have e2 : wid 2 = 8 := by decide
  have e3 : wid 3 = 16 := by decide
  have e4 : wid 4 = 32 := by decide
  have e5 : wid 5 = 64 := by decide
  have e6 : wid 6 = 8 := by decide
  have e7 : wid 7 = 16 := by decide
  have e8 : wid 8 = 32 := by decide
  have e9 : wid 9 = 64 := by decide
  have p1 : (2 : Int) ^ 1 = 2 := by decide
  have p8 : (2 : Int) ^ 8 = 256 := by decide
  have p16 : (2 : Int) ^ 16 = 65536 := by decide
  have p32 : (2 : Int) ^ 32 = 4294967296 := by decide
  have p64 : (2 : Int) ^ 64 = 18446744073709551616 := by decide
  rcases kinds k with rfl | rfl | rfl | rfl | rfl | rfl | rfl | rfl | rfl | hk
  · rw [e1, p1] at h; rw [wkr_1, wkr_1, h]
  · rw [e2, p8] at h; rw [wkr_2, wkr_2]; omega
  · rw [e3, p16] at h; rw [wkr_3, wkr_3]; omega
  · rw [e4, p32] at h; rw [wkr_4, wkr_4]; omega
  · rw [e5, p64] at h; rw [wkr_5, wkr_5]; exact eq_of_mod64 hx hy h
  · rw [e6, p8] at h; rw [wkr_6, wkr_6]; omega
  · rw [e7, p16] at h; rw [wkr_7, wkr_7]; omega
  · rw [e8, p32] at h; rw [wkr_8, wkr_8]; omega
  · rw [e9, p64] at h; rw [wkr_9, wkr_9]; exact eq_of_mod64 hx hy h
  · rw [wkr_none _ hk, wkr_none _ hk]
/-- What a list of bits is, if it has the bits of a number. -/
theorem wkr_fromS {k N : Int} (l : List Int) (hN : I64 N) (h : ∀ i, i < wid k → l.getD i 0 = bitI N i) : wkr k (fromS l (wid k)) = wkr k N := by
  obtain ⟨h1, h2⟩ := fromS_mod l N (wid k) (wid_le k) h
  exact wkr_congr h2 hN h1
theorem bitI_nat (N i : Nat) : bitI (N : Int) i = if N.testBit i then 1 else 0 := by
  have h : bitI (N : Int) i = ((N / 2 ^ i % 2 : Nat) : Int) := by unfold bitI; simp
  rw [h, Nat.testBit_eq_decide_div_mod_eq]
  have : N / 2 ^ i % 2 = 0 ∨ N / 2 ^ i % 2 = 1 := by omega
  rcases this with h | h <;> simp [h]
theorem bitI_ofInt (a : Int) (i : Nat) (hi : i < 64) : bitI a i = if (BitVec.ofInt 64 a).toNat.testBit i then 1 else 0 := by
  rw [← bitI_nat, BitVec.toNat_ofInt]
  have h : (((a % ((2 ^ 64 : Nat) : Int)).toNat : Nat) : Int) = a % 2 ^ 64 := by
    have := Int.emod_nonneg a (show ((2 ^ 64 : Nat) : Int) ≠ 0 by decide)
    rw [Int.toNat_of_nonneg this]; rfl
  rw [h, bitI_mod a 64 i hi]
theorem bitI_wrap (n : Int) (i : Nat) (hi : i < 64) : bitI (IntKind.i64.wrap n) i = bitI n i := by
  rw [← bitI_mod _ 64 i hi, ← bitI_mod n 64 i hi]
  congr 1
  have e64 : (2 : Int) ^ 64 = 18446744073709551616 := by decide
  rw [e64, IntKind.wrap_i64]; omega
theorem wrapI64 (n : Int) : I64 (IntKind.i64.wrap n) := by rw [IntKind.wrap_i64]; unfold I64; omega
theorem bitI_and (a b : Int) (i : Nat) (hi : i < 64) : bitI (bits .and .i64 a b) i = bitI a i * bitI b i := by
  rw [bits_and64, bitI_wrap _ i hi, bitI_nat, BitVec.toNat_and, Nat.testBit_and, bitI_ofInt a i hi, bitI_ofInt b i hi]
  cases (BitVec.ofInt 64 a).toNat.testBit i <;> cases (BitVec.ofInt 64 b).toNat.testBit i <;> rfl
theorem bitI_or (a b : Int) (i : Nat) (hi : i < 64) : bitI (bits .or .i64 a b) i = if bitI b i = 1 then 1 else bitI a i := by
  rw [bits_or64, bitI_wrap _ i hi, bitI_nat, BitVec.toNat_or, Nat.testBit_or, bitI_ofInt a i hi, bitI_ofInt b i hi]
  cases (BitVec.ofInt 64 a).toNat.testBit i <;> cases (BitVec.ofInt 64 b).toNat.testBit i <;> rfl
theorem bitI_xor (a b : Int) (i : Nat) (hi : i < 64) : bitI (bits .xor .i64 a b) i = (bitI a i + bitI b i) % 2 := by
  rw [bits_xor64, bitI_wrap _ i hi, bitI_nat, BitVec.toNat_xor, Nat.testBit_xor, bitI_ofInt a i hi, bitI_ofInt b i hi]
  cases (BitVec.ofInt 64 a).toNat.testBit i <;> cases (BitVec.ofInt 64 b).toNat.testBit i <;> rfl
theorem bitsI64 (o : BinOp) (a b : Int) (h : o = .and ∨ o = .or ∨ o = .xor) : I64 (bits o .i64 a b) := by
  rcases h with rfl | rfl | rfl
  · rw [bits_and64]; exact wrapI64 _
  · rw [bits_or64]; exact wrapI64 _
  · rw [bits_xor64]; exact wrapI64 _
theorem bitI_neg1 (i : Nat) : bitI (-1) i = 1 := by
  unfold bitI
  have h0 := pow_pos' i
  have : (-1 : Int) / 2 ^ i = -1 := by
    have h := Int.ediv_emod_unique (a := -1) (r := 2 ^ i - 1) (q := -1) h0
    exact (h.2 ⟨by omega, by omega, by omega⟩).1
  rw [this]; rfl
theorem bitsL_getD (m : Nat) (n : Int) (i : Nat) (hi : i < m) : (bitsL m n).getD i 0 = bitI n i := by
  simp [bitsL, List.getD_eq_getElem?_getD, hi, bitI]

def bitOp (op x y : Int) : Int := if op = 8 then x * y else if op = 9 then (if y = 1 then 1 else x) else (x + y) % 2
theorem bitsL_bit (m : Nat) (n : Int) (j : Nat) (x : Int) (h : (bitsL m n)[j]? = some x) : 0 ≤ x ∧ x ≤ 1 := by
  simp only [bitsL, List.getElem?_map] at h
  cases h2 : (List.range m)[j]? with
  | none => simp [h2] at h
  | some i => simp [h2] at h; omega
theorem zip_getD (f : Int → Int → Int) (m : Nat) (a b : Int) (i : Nat) (hi : i < m) : (List.zipWith f (bitsL m a) (bitsL m b)).getD i 0 = f (bitI a i) (bitI b i) := by
  simp [bitsL, List.getD_eq_getElem?_getD, hi, bitI]
theorem law_and (k a b : Int) : wkr k (fromS (List.zipWith (bitOp 8) (bitsL (wid k) a) (bitsL (wid k) b)) (wid k)) = wkr k (bits .and .i64 a b) :=
  wkr_fromS _ (bitsI64 _ _ _ (by simp)) fun i hi => by rw [zip_getD _ _ _ _ _ hi, bitI_and _ _ _ (Nat.lt_of_lt_of_le hi (wid_le k))]; rfl
theorem law_or (k a b : Int) : wkr k (fromS (List.zipWith (bitOp 9) (bitsL (wid k) a) (bitsL (wid k) b)) (wid k)) = wkr k (bits .or .i64 a b) :=
  wkr_fromS _ (bitsI64 _ _ _ (by simp)) fun i hi => by rw [zip_getD _ _ _ _ _ hi, bitI_or _ _ _ (Nat.lt_of_lt_of_le hi (wid_le k))]; rfl
theorem law_xor (k a b : Int) : wkr k (fromS (List.zipWith (bitOp 10) (bitsL (wid k) a) (bitsL (wid k) b)) (wid k)) = wkr k (bits .xor .i64 a b) :=
  wkr_fromS _ (bitsI64 _ _ _ (by simp)) fun i hi => by rw [zip_getD _ _ _ _ _ hi, bitI_xor _ _ _ (Nat.lt_of_lt_of_le hi (wid_le k))]; rfl
theorem law_not (k a : Int) : wkr k (fromS ((bitsL (wid k) a).map (fun x => 1 - x)) (wid k)) = wkr k (bits .xor .i64 (-1) a) :=
  wkr_fromS _ (bitsI64 _ _ _ (by simp)) fun i hi => by
    rw [bitI_xor _ _ _ (Nat.lt_of_lt_of_le hi (wid_le k)), bitI_neg1]
    have h1 : ((bitsL (wid k) a).map (fun x => 1 - x)).getD i 0 = 1 - bitI a i := by simp [bitsL, List.getD_eq_getElem?_getD, hi, bitI]
    rw [h1]
    have := bitI_bd a i
    omega
theorem isk_one {a : Int} (h : isk 1 a = true) : a = 0 ∨ a = 1 := by
  simp only [isk, Bool.and_eq_true, beq_iff_eq, wkr_1] at h
  omega
theorem law_not1 {a : Int} (h : isk 1 a = true) : wkr 1 (bits .xor .i64 (-1) a) = wrap64 (1 - a) := by
  rcases isk_one h with rfl | rfl <;> decide +kernel
theorem law_imp {a b : Int} (hb : isk 1 b = true) : (a == 0 || b == 1) = (a == 0 || b != 0) := by
  rcases isk_one hb with rfl | rfl <;> rfl

theorem law_div9 (a b : Int) (_hb : b % 18446744073709551616 ≠ 0) : wrap64 (IntKind.u64.wrap ((IntKind.u64.wrap a).tdiv (IntKind.u64.wrap b))) = wrap64 (a % 18446744073709551616 / (b % 18446744073709551616)) := by
  have h1 : 0 ≤ a % 18446744073709551616 := by omega
  have h2 : 0 ≤ b % 18446744073709551616 := by omega
  apply wrap64_congr
  simp only [u64_eq]
  rw [Int.tdiv_eq_ediv_of_nonneg h1]
  omega
theorem law_mod9 (a b : Int) : wrap64 ((IntKind.u64.wrap a).tmod (IntKind.u64.wrap b)) = wrap64 (a % 18446744073709551616 % (b % 18446744073709551616)) := by
  have h1 : 0 ≤ a % 18446744073709551616 := by omega
  simp only [u64_eq]
  rw [Int.tmod_eq_emod_of_nonneg h1]

theorem movAt_shl (m : Nat) (X : List Int) (U : Int) (i : Nat) (hU : 0 ≤ U) (hi : i < m) : movAt 12 m X U 0 i = if (i : Int) < U then 0 else if U < m then X.getD ((i : Int) - U).toNat 0 else 0 := by
  unfold movAt
  simp only [movFrom, show ¬ ((12 : Int) = 13) by decide, if_false]
  by_cases h1 : (i : Int) < U
  · rw [if_neg (by omega), if_pos h1]
  · rw [if_neg h1]
    by_cases h2 : U < m
    · rw [if_pos (by omega), if_pos h2]
    · rw [if_neg (by omega), if_neg h2]
theorem bitI_shl (a : Int) (u i : Nat) : bitI (a * 2 ^ u) i = if i < u then 0 else bitI a (i - u) := by
  unfold bitI
  have h0 := pow_pos' i
  by_cases h : i < u
  · rw [if_pos h]
    obtain ⟨d, rfl⟩ := Nat.le.dest (show i + 1 ≤ u by omega)
    have e : a * 2 ^ (i + 1 + d) = (2 * (a * 2 ^ d)) * 2 ^ i := by
      rw [Int.pow_add, Int.pow_succ]
      simp only [Int.mul_assoc, Int.mul_comm, Int.mul_left_comm]
    rw [e, Int.mul_ediv_cancel _ (by omega)]
    omega
  · rw [if_neg h]
    obtain ⟨d, rfl⟩ := Nat.le.dest (show u ≤ i by omega)
    have hu := pow_pos' u
    rw [show u + d - u = d by omega, Int.pow_add, ← Int.ediv_ediv_of_nonneg (by omega), Int.mul_ediv_cancel _ (by omega)]
theorem movedL_getD (op : Int) (m : Nat) (X : List Int) (U f0 : Int) (i : Nat) (hi : i < m) : (movedL op m X U f0).getD i 0 = movAt op m X U f0 i := by
  simp [movedL, List.getD_eq_getElem?_getD, hi]
theorem ubits_eq (k n : Int) : ubits k n = n % 2 ^ wid k := rfl
theorem law_shl (k a b : Int) : wkr k (fromS (movedL 12 (wid k) (bitsL (wid k) a) (b % 2 ^ wid k) 0) (wid k)) = wkr k (shlv k a k b) := by
  have hU0 : 0 ≤ b % 2 ^ wid k := Int.emod_nonneg _ (by have := pow_pos' (wid k); omega)
  have hw := width_wid k
  apply wkr_fromS
  · unfold shlv; split
    · unfold I64; omega
    · exact wrap64_I64 _
  intro i hi
  rw [movedL_getD _ _ _ _ _ _ hi, movAt_shl _ _ _ _ hU0 hi]
  unfold shlv
  rw [ubits_eq, ubits_eq, hw]
  obtain ⟨u, hu⟩ := Int.eq_ofNat_of_zero_le hU0
  rw [hu]
  by_cases h : (wid k : Int) ≤ (u : Int)
  · rw [if_pos h, if_pos (by omega)]; unfold bitI; simp
  · rw [if_neg h, Int.toNat_natCast]
    have hi64 : i < 64 := Nat.lt_of_lt_of_le hi (wid_le k)
    have e : bitI (wrap64 (IntKind.u64.wrap (a % 2 ^ wid k * 2 ^ u))) i = bitI (a % 2 ^ wid k * 2 ^ u) i := by
      rw [← bitI_mod _ 64 i hi64, ← bitI_mod (a % 2 ^ wid k * 2 ^ u) 64 i hi64]
      congr 1
      have e64 : (2 : Int) ^ 64 = 18446744073709551616 := by decide
      rw [e64, wrap64_mod, u64_eq]; omega
    rw [e, bitI_shl]
    by_cases h2 : i < u
    · rw [if_pos (by omega), if_pos h2]
    · rw [if_neg (by omega), if_neg h2, if_pos (by omega), show ((i : Int) - (u : Int)).toNat = i - u by omega, bitsL_getD _ _ _ (by omega), bitI_mod _ _ _ (by omega)]
theorem bitI_shr (a : Int) (u i : Nat) : bitI (a / 2 ^ u) i = bitI a (i + u) := by
  unfold bitI
  rw [Int.ediv_ediv_of_nonneg (Int.pow_nonneg (by decide)), ← Int.pow_add, Nat.add_comm]
theorem movAt_shr (m : Nat) (X : List Int) (U f0 : Int) (i : Nat) (hU : 0 ≤ U) : movAt 13 m X U f0 i = if (i : Int) + U < m then X.getD ((i : Int) + U).toNat 0 else f0 := by
  unfold movAt
  simp only [movFrom, if_true]
  by_cases h1 : (i : Int) + U < m
  · rw [if_pos (by omega), if_pos h1]
  · rw [if_neg (by omega), if_neg h1]
theorem bitI_big {a : Int} {m j : Nat} (h0 : 0 ≤ a) (h1 : a < 2 ^ m) (hj : m ≤ j) : bitI a j = 0 := by
  unfold bitI
  have h2 : (2 : Int) ^ m ≤ 2 ^ j := by
    obtain ⟨d, rfl⟩ := Nat.le.dest hj
    rw [Int.pow_add]
    have := pow_pos' d; have := pow_pos' m
    have := Int.mul_le_mul_of_nonneg_left (show (1 : Int) ≤ 2 ^ d by omega) (show 0 ≤ (2 : Int) ^ m by omega)
    omega
  rw [Int.ediv_eq_zero_of_lt h0 (by omega)]; rfl
theorem law_shr_u (k a b : Int) (hs : sgn k = false) : wkr k (fromS (movedL 13 (wid k) (bitsL (wid k) a) (b % 2 ^ wid k) 0) (wid k)) = wkr k (shrv k a k b) := by
  have hU0 : 0 ≤ b % 2 ^ wid k := Int.emod_nonneg _ (by have := pow_pos' (wid k); omega)
  have hA0 : 0 ≤ a % 2 ^ wid k := Int.emod_nonneg _ (by have := pow_pos' (wid k); omega)
  have hA1 : a % 2 ^ wid k < 2 ^ wid k := Int.emod_lt_of_pos _ (pow_pos' _)
  have hw := width_wid k
  have e : shrv k a k b = wrap64 (a % 2 ^ wid k / 2 ^ (shrBy k k b).toNat) := by unfold shrv; rw [hs]; rfl
  rw [e]
  apply wkr_fromS _ (wrap64_I64 _)
  intro i hi
  have hi64 : i < 64 := Nat.lt_of_lt_of_le hi (wid_le k)
  have e2 : bitI (wrap64 (a % 2 ^ wid k / 2 ^ (shrBy k k b).toNat)) i = bitI (a % 2 ^ wid k / 2 ^ (shrBy k k b).toNat) i := by
    rw [← bitI_mod _ 64 i hi64, ← bitI_mod (a % 2 ^ wid k / 2 ^ (shrBy k k b).toNat) 64 i hi64]
    congr 1
    have e64 : (2 : Int) ^ 64 = 18446744073709551616 := by decide
    rw [e64, wrap64_mod]
  rw [e2, bitI_shr, movedL_getD _ _ _ _ _ _ hi, movAt_shr _ _ _ _ _ hU0]
  obtain ⟨u, hu⟩ := Int.eq_ofNat_of_zero_le hU0
  have hb : shrBy k k b = if (wid k : Int) ≤ u then 64 else (u : Int) := by unfold shrBy; rw [ubits_eq, hu, hw]
  rw [hu, hb]
  by_cases h : (wid k : Int) ≤ (u : Int)
  · rw [if_pos h, if_neg (by omega)]
    exact (bitI_big hA0 hA1 (by have := wid_le k; show wid k ≤ i + (64 : Int).toNat; omega)).symm
  · rw [if_neg h, Int.toNat_natCast]
    by_cases h2 : (i : Int) + u < wid k
    · rw [if_pos h2, show ((i : Int) + (u : Int)).toNat = i + u by omega, bitsL_getD _ _ _ (by omega), bitI_mod _ _ _ (by omega)]
    · rw [if_neg h2]
      exact (bitI_big hA0 hA1 (by omega)).symm
/-- A signed value's bits from its sign on. -/
theorem bitI_sign {a : Int} {m j : Nat} (h0 : -(2 ^ m) ≤ a) (h1 : a < 2 ^ m) (hj : m ≤ j) : bitI a j = if a < 0 then 1 else 0 := by
  by_cases h : a < 0
  · rw [if_pos h]
    unfold bitI
    have h2 : (2 : Int) ^ m ≤ 2 ^ j := by
      obtain ⟨d, rfl⟩ := Nat.le.dest hj
      rw [Int.pow_add]
      have := pow_pos' d; have := pow_pos' m
      have := Int.mul_le_mul_of_nonneg_left (show (1 : Int) ≤ 2 ^ d by omega) (show 0 ≤ (2 : Int) ^ m by omega)
      omega
    have h3 : a / 2 ^ j = -1 := by
      have h := Int.ediv_emod_unique (a := a) (r := a + 2 ^ j) (q := -1) (pow_pos' j)
      exact (h.2 ⟨by omega, by omega, by omega⟩).1
    rw [h3]; rfl
  · rw [if_neg h]; exact bitI_big (by omega) h1 hj
theorem isk_signed {k a : Int} (hs : sgn k = true) (h : isk k a = true) : ∃ m, wid k = m + 1 ∧ -(2 ^ m) ≤ a ∧ a < 2 ^ m ∨ k = 5 := by
  simp only [sgn, Bool.and_eq_true, decide_eq_true_eq] at hs
  simp only [isk, Bool.and_eq_true, beq_iff_eq] at h
  have p7 : (2 : Int) ^ 7 = 128 := by decide
  have p15 : (2 : Int) ^ 15 = 32768 := by decide
  have p31 : (2 : Int) ^ 31 = 2147483648 := by decide
  rcases (show k = 2 ∨ k = 3 ∨ k = 4 ∨ k = 5 by omega) with rfl | rfl | rfl | rfl
  · rw [wkr_2] at h; exact ⟨7, .inl ⟨by decide, by omega, by omega⟩⟩
  · rw [wkr_3] at h; exact ⟨15, .inl ⟨by decide, by omega, by omega⟩⟩
  · rw [wkr_4] at h; exact ⟨31, .inl ⟨by decide, by omega, by omega⟩⟩
  · exact ⟨0, .inr rfl⟩
theorem signed_bd {k a : Int} (ha : I64 a) (hs : sgn k = true) (h : isk k a = true) : ∃ m, wid k = m + 1 ∧ -(2 ^ m) ≤ a ∧ a < 2 ^ m := by
  obtain ⟨m, h1 | rfl⟩ := isk_signed hs h
  · exact ⟨m, h1⟩
  · refine ⟨63, by decide, ?_⟩
    have p63 : (2 : Int) ^ 63 = 9223372036854775808 := by decide
    unfold I64 at ha; rw [p63]; omega
theorem law_shr_s (k a b : Int) (ha : I64 a) (hs : sgn k = true) (hi : isk k a = true) : wkr k (fromS (movedL 13 (wid k) (bitsL (wid k) a) (b % 2 ^ wid k) (if a < 0 then 1 else 0)) (wid k)) = wkr k (shrv k a k b) := by
  have hU0 : 0 ≤ b % 2 ^ wid k := Int.emod_nonneg _ (by have := pow_pos' (wid k); omega)
  have hw := width_wid k
  obtain ⟨m, hm, hm0, hm1⟩ := signed_bd ha hs hi
  have e : shrv k a k b = a / 2 ^ (shrBy k k b).toNat := by unfold shrv; rw [hs]; rfl
  rw [e]
  have hI : ∀ s : Nat, I64 (a / 2 ^ s) := fun s => by
    have hp := pow_pos' s
    unfold I64 at ha ⊢
    by_cases h : 0 ≤ a
    · have h1 := Int.ediv_nonneg h (show 0 ≤ (2 : Int) ^ s by omega)
      have h2 := Int.ediv_le_self (2 ^ s) h
      omega
    · have h1 : a ≤ a / 2 ^ s := by
        have h3 := Int.mul_ediv_add_emod a (2 ^ s)
        have h4 := Int.emod_nonneg a (show (2 : Int) ^ s ≠ 0 by omega)
        have h5 := Int.emod_lt_of_pos a hp
        have h6 : a / 2 ^ s < 0 := Int.ediv_neg_of_neg_of_pos (by omega) hp
        have h7 : 2 ^ s * (a / 2 ^ s + 1) ≤ 1 * (a / 2 ^ s + 1) := Int.mul_le_mul_of_nonpos_right (show (1 : Int) ≤ 2 ^ s by omega) (show a / 2 ^ s + 1 ≤ 0 by omega)
        rw [Int.mul_add] at h7
        omega
      have h2 : a / 2 ^ s < 0 := Int.ediv_neg_of_neg_of_pos (by omega) hp
      omega
  apply wkr_fromS _ (hI _)
  intro i hi'
  rw [bitI_shr, movedL_getD _ _ _ _ _ _ hi', movAt_shr _ _ _ _ _ hU0]
  obtain ⟨u, hu⟩ := Int.eq_ofNat_of_zero_le hU0
  have hb : shrBy k k b = if (wid k : Int) ≤ u then 64 else (u : Int) := by unfold shrBy; rw [ubits_eq, hu, hw]
  rw [hu, hb]
  by_cases h : (wid k : Int) ≤ (u : Int)
  · rw [if_pos h, if_neg (by omega)]
    exact (bitI_sign hm0 hm1 (by have := wid_le k; show m ≤ i + (64 : Int).toNat; omega)).symm
  · rw [if_neg h, Int.toNat_natCast]
    by_cases h2 : (i : Int) + u < wid k
    · rw [if_pos h2, show ((i : Int) + (u : Int)).toNat = i + u by omega, bitsL_getD _ _ _ (by omega)]
    · rw [if_neg h2]
      exact (bitI_sign hm0 hm1 (by omega)).symm
end Go.Proofs.Ytkjgghbdpmkmoaa
