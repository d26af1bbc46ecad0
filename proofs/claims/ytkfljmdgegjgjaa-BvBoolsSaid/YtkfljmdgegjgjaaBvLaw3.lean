/-
  The plain laws of values, on: rings, bits, orders.
  No condition but that numbers fit 64 bits.
-/
import Derived.Test.YtkfljmdgegjgjaaBvLaw2
namespace Go.Proofs.Ytkfljmdgegjgjaa
open Go.RowKit

theorem fits3 {k : Int} : fitsv 3 k = true := by
  unfold fitsv; split
  · exact f31
  · exact f32
theorem dov_both {k : Int} (h : 0 < wid k) (n : Nat) (hn : opOf n = 3) (a b : Int) : dov n k a b = (binr n k (wkr k a) (wkr k b)).1 := by
  unfold dov
  rw [binv_yes (by simp [binOk, isk_wkr _ h, hn, fits3])]; rfl
theorem d3 {k : Int} (h : Num k) (a b : Int) : dov 3 k a b = wkr k (wrap64 (wkr k a + wkr k b)) := dov_eq h 3 (by decide) a b
theorem d4 {k : Int} (h : Num k) (a b : Int) : dov 4 k a b = wkr k (wrap64 (wkr k a - wkr k b)) := dov_eq h 4 (by decide) a b
theorem d5 {k : Int} (h : Num k) (a b : Int) : dov 5 k a b = wkr k (wrap64 (wkr k a * wkr k b)) := dov_eq h 5 (by decide) a b
theorem d8 {k : Int} (h : 0 < wid k) (a b : Int) : dov 8 k a b = wkr k (bits .and .i64 (wkr k a) (wkr k b)) := dov_both h 8 (by decide) a b
theorem d9 {k : Int} (h : 0 < wid k) (a b : Int) : dov 9 k a b = wkr k (bits .or .i64 (wkr k a) (wkr k b)) := dov_both h 9 (by decide) a b
theorem d10 {k : Int} (h : 0 < wid k) (a b : Int) : dov 10 k a b = wkr k (bits .xor .i64 (wkr k a) (wkr k b)) := dov_both h 10 (by decide) a b
theorem d14 {k : Int} (h : Num k) (a b : Int) : dov 14 k a b = tru (wkr k a == wkr k b) := dov_eq h 14 (by decide) a b
theorem d15 {k : Int} (h : Num k) (a b : Int) : dov 15 k a b = tru (wkr k a != wkr k b) := dov_eq h 15 (by decide) a b
theorem d16 {k : Int} (h : Num k) (a b : Int) : dov 16 k a b = tru (blw k (wkr k a) (wkr k b)) := dov_eq h 16 (by decide) a b
theorem d17 {k : Int} (h : Num k) (a b : Int) : dov 17 k a b = tru (!(blw k (wkr k b) (wkr k a))) := dov_eq h 17 (by decide) a b
theorem d18 {k : Int} (h : Num k) (a b : Int) : dov 18 k a b = tru (blw k (wkr k b) (wkr k a)) := dov_eq h 18 (by decide) a b
theorem d19 {k : Int} (h : Num k) (a b : Int) : dov 19 k a b = tru (!(blw k (wkr k a) (wkr k b))) := dov_eq h 19 (by decide) a b

theorem d3m {k : Int} (h : Num k) (a b : Int) : dov 3 k a b % 2 ^ wid k = (a + b) % 2 ^ wid k := by
  rw [d3 h, wkr_mod _ h.wid, wrap64_modw _ _ (wid_le k)]; exact add_congr (wkr_mod _ h.wid) (wkr_mod _ h.wid)
theorem d4m {k : Int} (h : Num k) (a b : Int) : dov 4 k a b % 2 ^ wid k = (a - b) % 2 ^ wid k := by
  rw [d4 h, wkr_mod _ h.wid, wrap64_modw _ _ (wid_le k)]; exact sub_congr (wkr_mod _ h.wid) (wkr_mod _ h.wid)
theorem d5m {k : Int} (h : Num k) (a b : Int) : dov 5 k a b % 2 ^ wid k = (a * b) % 2 ^ wid k := by
  rw [d5 h, wkr_mod _ h.wid, wrap64_modw _ _ (wid_le k)]; exact mul_congr (wkr_mod _ h.wid) (wkr_mod _ h.wid)
theorem wI (k x : Int) : I64 (wkr k (wrap64 x)) := wkr_I64 (wrap64_I64 _)
theorem d3I {k : Int} (h : Num k) (a b : Int) : I64 (dov 3 k a b) := by rw [d3 h]; exact wI _ _
theorem d4I {k : Int} (h : Num k) (a b : Int) : I64 (dov 4 k a b) := by rw [d4 h]; exact wI _ _
theorem d5I {k : Int} (h : Num k) (a b : Int) : I64 (dov 5 k a b) := by rw [d5 h]; exact wI _ _
theorem d3k {k : Int} (h : Num k) (a b : Int) : isk k (dov 3 k a b) = true := by rw [d3 h]; exact isk_wkr _ h.wid
theorem d4k {k : Int} (h : Num k) (a b : Int) : isk k (dov 4 k a b) = true := by rw [d4 h]; exact isk_wkr _ h.wid
theorem d5k {k : Int} (h : Num k) (a b : Int) : isk k (dov 5 k a b) = true := by rw [d5 h]; exact isk_wkr _ h.wid
theorem isk_zero {k : Int} (h : 0 < wid k) : isk k 0 = true := by
  have : wkr k 0 = 0 := by
    rcases kinds k with rfl | rfl | rfl | rfl | rfl | rfl | rfl | rfl | rfl | hk <;> first | decide +kernel | exact wkr_none _ hk
  have e := isk_wkr 0 h
  rwa [this] at e

theorem ring_comm {k : Int} (h : Num k) (a b : Int) : dov 3 k b a = dov 3 k a b := by rw [d3 h, d3 h, Int.add_comm]
theorem ring_dist {k : Int} (h : Num k) (a b c : Int) : dov 5 k a (dov 3 k b c) = dov 3 k (dov 5 k a b) (dov 5 k a c) := by
  refine isk_ext (d5k h _ _) (d3k h _ _) (d5I h _ _) (d3I h _ _) ?_
  rw [d5m h, d3m h, mul_congr rfl (d3m h b c), add_congr (d5m h a b) (d5m h a c), Int.mul_add]
theorem ring_neg {k : Int} (h : Num k) (a : Int) : dov 3 k a (wkr k (wrap64 (-(wkr k a)))) = 0 := by
  refine isk_ext (d3k h _ _) (isk_zero h.wid) (d3I h _ _) (by unfold I64; omega) ?_
  have e : wkr k (wrap64 (-(wkr k a))) % 2 ^ wid k = (0 - a) % 2 ^ wid k := by
    rw [wkr_mod _ h.wid, wrap64_modw _ _ (wid_le k), ← Int.zero_sub]; exact sub_congr rfl (wkr_mod _ h.wid)
  rw [d3m h, add_congr rfl e, show a + (0 - a) = 0 by omega]
theorem ring_sub {k : Int} (h : Num k) (a b : Int) : dov 4 k a b = dov 3 k a (dov 5 k b (dov 4 k 0 1)) := by
  refine isk_ext (d4k h _ _) (d3k h _ _) (d4I h _ _) (d3I h _ _) ?_
  have e : (b * dov 4 k 0 1) % 2 ^ wid k = (b * (0 - 1)) % 2 ^ wid k := mul_congr rfl (d4m h 0 1)
  rw [d4m h, d3m h, add_congr rfl ((d5m h b _).trans e)]
  congr 1; omega

theorem bitI_wkr {k : Int} (h : 0 < wid k) (x : Int) (i : Nat) (hi : i < wid k) : bitI (wkr k x) i = bitI x i := bitI_congr hi (wkr_mod x h)
theorem b8 {k : Int} (h : 0 < wid k) (a b : Int) (i : Nat) (hi : i < wid k) : bitI (dov 8 k a b) i = bitI a i * bitI b i := by
  rw [d8 h, bitI_wkr h _ _ hi, bitI_and _ _ _ (Nat.lt_of_lt_of_le hi (wid_le k)), bitI_wkr h _ _ hi, bitI_wkr h _ _ hi]
theorem b9 {k : Int} (h : 0 < wid k) (a b : Int) (i : Nat) (hi : i < wid k) : bitI (dov 9 k a b) i = if bitI b i = 1 then 1 else bitI a i := by
  rw [d9 h, bitI_wkr h _ _ hi, bitI_or _ _ _ (Nat.lt_of_lt_of_le hi (wid_le k)), bitI_wkr h _ _ hi, bitI_wkr h _ _ hi]
theorem b10 {k : Int} (h : 0 < wid k) (a b : Int) (i : Nat) (hi : i < wid k) : bitI (dov 10 k a b) i = (bitI a i + bitI b i) % 2 := by
  rw [d10 h, bitI_wkr h _ _ hi, bitI_xor _ _ _ (Nat.lt_of_lt_of_le hi (wid_le k)), bitI_wkr h _ _ hi, bitI_wkr h _ _ hi]
/-- The opposite of a value's bits. -/
def notv (k a : Int) : Int := wkr k (bits .xor .i64 (-1) (wkr k a))
theorem bnot {k : Int} (h : 0 < wid k) (a : Int) (i : Nat) (hi : i < wid k) : bitI (notv k a) i = 1 - bitI a i := by
  unfold notv
  rw [bitI_wkr h _ _ hi, bitI_xor _ _ _ (Nat.lt_of_lt_of_le hi (wid_le k)), bitI_neg1, bitI_wkr h _ _ hi]
  have := bitI_bd a i
  omega
theorem dk8 {k : Int} (h : 0 < wid k) (a b : Int) : isk k (dov 8 k a b) = true ∧ I64 (dov 8 k a b) := by rw [d8 h]; exact ⟨isk_wkr _ h, wkr_I64 (bitsI64 _ _ _ (by simp))⟩
theorem dk9 {k : Int} (h : 0 < wid k) (a b : Int) : isk k (dov 9 k a b) = true ∧ I64 (dov 9 k a b) := by rw [d9 h]; exact ⟨isk_wkr _ h, wkr_I64 (bitsI64 _ _ _ (by simp))⟩
theorem dk10 {k : Int} (h : 0 < wid k) (a b : Int) : isk k (dov 10 k a b) = true ∧ I64 (dov 10 k a b) := by rw [d10 h]; exact ⟨isk_wkr _ h, wkr_I64 (bitsI64 _ _ _ (by simp))⟩
theorem dkn {k : Int} (h : 0 < wid k) (a : Int) : isk k (notv k a) = true ∧ I64 (notv k a) := ⟨isk_wkr _ h, wkr_I64 (bitsI64 _ _ _ (by simp))⟩
theorem dkw {k a : Int} (h : 0 < wid k) (ha : I64 a) : isk k (wkr k a) = true ∧ I64 (wkr k a) := ⟨isk_wkr _ h, wkr_I64 ha⟩
theorem ext_bits {k x y : Int} (hx : isk k x = true ∧ I64 x) (hy : isk k y = true ∧ I64 y) (h : ∀ i, i < wid k → bitI x i = bitI y i) : x = y :=
  isk_ext hx.1 hy.1 hx.2 hy.2 (bits_ext h)
theorem bit_cases (x : Int) (i : Nat) : bitI x i = 0 ∨ bitI x i = 1 := by have := bitI_bd x i; omega

theorem bits_absorb {k : Int} (h : 0 < wid k) {a : Int} (b : Int) (ha : I64 a) : dov 8 k a (dov 9 k a b) = wkr k a := by
  refine ext_bits (dk8 h _ _) (dkw h ha) fun i hi => ?_
  rw [b8 h _ _ _ hi, b9 h _ _ _ hi, bitI_wkr h _ _ hi]
  rcases bit_cases a i with e | e <;> rcases bit_cases b i with f | f <;> rw [e, f] <;> rfl
theorem bits_xnot {k : Int} (h : 0 < wid k) (a : Int) : dov 10 k a (notv k a) = wkr k (-1) := by
  refine ext_bits (dk10 h _ _) (dkw h (by unfold I64; omega)) fun i hi => ?_
  rw [b10 h _ _ _ hi, bnot h _ _ hi, bitI_wkr h _ _ hi, bitI_neg1]
  rcases bit_cases a i with e | e <;> rw [e] <;> rfl
theorem bits_anot {k : Int} (h : 0 < wid k) (a : Int) : dov 8 k a (notv k a) = 0 := by
  refine ext_bits (dk8 h _ _) ⟨isk_zero h, by unfold I64; omega⟩ fun i hi => ?_
  rw [b8 h _ _ _ hi, bnot h _ _ hi]
  have e0 : bitI 0 i = 0 := by unfold bitI; simp
  rw [e0]
  rcases bit_cases a i with e | e <;> rw [e] <;> rfl
theorem bits_onot {k : Int} (h : 0 < wid k) (a : Int) : dov 9 k a (notv k a) = wkr k (-1) := by
  refine ext_bits (dk9 h _ _) (dkw h (by unfold I64; omega)) fun i hi => ?_
  rw [b9 h _ _ _ hi, bnot h _ _ hi, bitI_wkr h _ _ hi, bitI_neg1]
  rcases bit_cases a i with e | e <;> rw [e] <;> rfl
theorem bits_morgan {k : Int} (h : 0 < wid k) (a b : Int) : notv k (dov 8 k a b) = dov 9 k (notv k a) (notv k b) := by
  refine ext_bits (dkn h _) (dk9 h _ _) fun i hi => ?_
  rw [bnot h _ _ hi, b8 h _ _ _ hi, b9 h _ _ _ hi, bnot h _ _ hi, bnot h _ _ hi]
  rcases bit_cases a i with e | e <;> rcases bit_cases b i with f | f <;> rw [e, f] <;> rfl
theorem bits_xor {k : Int} (h : 0 < wid k) (a b : Int) : dov 10 k a b = dov 8 k (dov 9 k a b) (notv k (dov 8 k a b)) := by
  refine ext_bits (dk10 h _ _) (dk8 h _ _) fun i hi => ?_
  rw [b10 h _ _ _ hi, b8 h _ _ _ hi, b9 h _ _ _ hi, bnot h _ _ hi, b8 h _ _ _ hi]
  rcases bit_cases a i with e | e <;> rcases bit_cases b i with f | f <;> rw [e, f] <;> rfl
theorem bits_dist {k : Int} (h : 0 < wid k) (a b c : Int) : dov 8 k a (dov 9 k b c) = dov 9 k (dov 8 k a b) (dov 8 k a c) := by
  refine ext_bits (dk8 h _ _) (dk9 h _ _) fun i hi => ?_
  rw [b8 h _ _ _ hi, b9 h _ _ _ hi, b9 h _ _ _ hi, b8 h _ _ _ hi, b8 h _ _ _ hi]
  rcases bit_cases a i with e | e <;> rcases bit_cases b i with f | f <;> rcases bit_cases c i with g | g <;> rw [e, f, g] <;> rfl
theorem bits_xx {k : Int} (h : 0 < wid k) {a : Int} (b : Int) (ha : I64 a) : dov 10 k (dov 10 k a b) b = wkr k a := by
  refine ext_bits (dk10 h _ _) (dkw h ha) fun i hi => ?_
  rw [b10 h _ _ _ hi, b10 h _ _ _ hi, bitI_wkr h _ _ hi]
  rcases bit_cases a i with e | e <;> rcases bit_cases b i with f | f <;> rw [e, f] <;> rfl

/-! orders -/
theorem blw_nine' (a b : Int) : blw 9 a b = decide (a % 18446744073709551616 < b % 18446744073709551616) := by simp only [blw, if_true, u64_eq]
theorem blw_tri {k a b : Int} (ha : I64 a) (hb : I64 b) : (blw k a b = true ∧ (a == b) = false ∧ blw k b a = false) ∨ (blw k a b = false ∧ (a == b) = true ∧ blw k b a = false) ∨ (blw k a b = false ∧ (a == b) = false ∧ blw k b a = true) := by
  by_cases h9 : k = 9
  · subst h9
    rw [blw_nine', blw_nine']
    unfold I64 at ha hb
    simp only [decide_eq_true_eq, decide_eq_false_iff_not, beq_iff_eq, beq_eq_false_iff_ne]
    omega
  · simp only [blw, if_neg h9, decide_eq_true_eq, decide_eq_false_iff_not, beq_iff_eq, beq_eq_false_iff_ne]
    omega
theorem blw_trans {k a b c : Int} (h1 : blw k a b = true) (h2 : blw k b c = true) : blw k a c = true := by
  by_cases h9 : k = 9
  · subst h9
    rw [blw_nine'] at *
    simp only [decide_eq_true_eq] at *
    omega
  · simp only [blw, if_neg h9, decide_eq_true_eq] at *
    omega
/-- The next value: either it is not above, and then there is none above; or nothing lies between. -/
theorem blw_next {k a b : Int} (hk : Num k) (ha : isk k a = true) (hb : isk k b = true) (ia : I64 a) (ib : I64 b) :
    (blw k a (wkr k (wrap64 (a + 1))) = false → blw k a b = false) ∧ (blw k a b = true → blw k (b) (wkr k (wrap64 (a + 1))) = false) := by
  have h1 := (isk_iff.1 ha).2
  have h2 := (isk_iff.1 hb).2
  unfold I64 at ia ib
  unfold Num at hk
  rcases (show k = 2 ∨ k = 3 ∨ k = 4 ∨ k = 5 ∨ k = 6 ∨ k = 7 ∨ k = 8 ∨ k = 9 by omega) with rfl | rfl | rfl | rfl | rfl | rfl | rfl | rfl
  · rw [wkr_2] at *; simp only [blw, show ¬ ((2 : Int) = 9) by decide, if_false, decide_eq_true_eq, decide_eq_false_iff_not, wrap64_eq]; omega
  · rw [wkr_3] at *; simp only [blw, show ¬ ((3 : Int) = 9) by decide, if_false, decide_eq_true_eq, decide_eq_false_iff_not, wrap64_eq]; omega
  · rw [wkr_4] at *; simp only [blw, show ¬ ((4 : Int) = 9) by decide, if_false, decide_eq_true_eq, decide_eq_false_iff_not, wrap64_eq]; omega
  · rw [wkr_5] at *; simp only [blw, show ¬ ((5 : Int) = 9) by decide, if_false, decide_eq_true_eq, decide_eq_false_iff_not, wrap64_eq]; omega
  · rw [wkr_6] at *; simp only [blw, show ¬ ((6 : Int) = 9) by decide, if_false, decide_eq_true_eq, decide_eq_false_iff_not, wrap64_eq]; omega
  · rw [wkr_7] at *; simp only [blw, show ¬ ((7 : Int) = 9) by decide, if_false, decide_eq_true_eq, decide_eq_false_iff_not, wrap64_eq]; omega
  · rw [wkr_8] at *; simp only [blw, show ¬ ((8 : Int) = 9) by decide, if_false, decide_eq_true_eq, decide_eq_false_iff_not, wrap64_eq]; omega
  · rw [wkr_9] at *; rw [blw_nine', blw_nine', blw_nine']; simp only [decide_eq_true_eq, decide_eq_false_iff_not, wrap64_eq]; omega
theorem blw_zero_u {k a : Int} (hk : 6 ≤ k ∧ k ≤ 9) (ha : isk k a = true) : blw k a 0 = false := by
  have h1 := (isk_iff.1 ha).2
  rcases (show k = 6 ∨ k = 7 ∨ k = 8 ∨ k = 9 by omega) with rfl | rfl | rfl | rfl
  · rw [wkr_6] at h1; simp only [blw, show ¬ ((6 : Int) = 9) by decide, if_false, decide_eq_false_iff_not]; omega
  · rw [wkr_7] at h1; simp only [blw, show ¬ ((7 : Int) = 9) by decide, if_false, decide_eq_false_iff_not]; omega
  · rw [wkr_8] at h1; simp only [blw, show ¬ ((8 : Int) = 9) by decide, if_false, decide_eq_false_iff_not]; omega
  · rw [blw_nine']; simp only [decide_eq_false_iff_not]; omega
theorem blw_zero_s {k a : Int} (hk : 2 ≤ k ∧ k ≤ 5) : blw k a 0 = decide (a < 0) := by
  simp only [blw, show ¬ (k = 9) by omega, if_false]
theorem neg_neg {k a : Int} (h : Num k) (ha : I64 a) : wkr k (wrap64 (-(wkr k (wrap64 (-(wkr k a)))))) = wkr k a := by
  refine isk_ext (isk_wkr _ h.wid) (isk_wkr _ h.wid) (wI _ _) (wkr_I64 ha) ?_
  have e : ∀ x, wkr k (wrap64 (-x)) % 2 ^ wid k = (0 - x) % 2 ^ wid k := fun x => by
    rw [wkr_mod _ h.wid, wrap64_modw _ _ (wid_le k), Int.zero_sub]
  rw [e, sub_congr rfl (e _), wkr_mod _ h.wid]
  have e2 : (0 - (0 - wkr k a)) % 2 ^ wid k = wkr k a % 2 ^ wid k := by congr 1; omega
  rw [e2, wkr_mod _ h.wid]
end Go.Proofs.Ytkfljmdgegjgjaa
