/-
  The plain laws of values, on: rings, bits, orders.
  No condition but that numbers fit 64 bits.
  The machine's run in plain words: what the check has told holds the run on its way.
  No condition.
  The walks of the machine (exec): the machine in memory; an instruction of whatever kind is done.
  Conditions: the machine lies in memory as it is said; the instruction meets what it needs.
  The walks of the machine (exec): a tick that is refused; what a tick lays out.
  Conditions: the machine lies in memory as it is said.
-/
import Derived.Test.YtipfcfaigbeakaaJRef
import Derived.Test.YtipfcfaigbeakaaJPlain
import Derived.Test.YtipfcfaigbeakaaJExecA
import Derived.Test.YtipfcfaigbeakaaJMem
namespace Go.Proofs.Ytipfcfaigbeakaa
open Go.RowKit
set_option linter.unusedSimpArgs false
set_option linter.unusedVariables false
set_option maxRecDepth 100000

theorem fits3 {k : Int} : fitsv 3 k = true := by
  unfold fitsv; split
  · exact f31
  · exact f32
theorem dov_both {k : Int} (h : 0 < wid k) (n : Nat) (hn : opOf n = 3) (a b : Int) : dov n k a b = (binr n k (wkr k a) (wkr k b)).1 := by
  unfold dov
  rw [binv_yes (by simp [binOk, isk_wkr _ h, hn, fits3])]; rfl
theorem d3 {k : Int} (h : Num k) (a b : Int) : dov 3 k a b = wkr k (wrap64 (wkr k a + wkr k b)) := dov_eq h 3 (by decide) a b
theorem d4 {k : Int} (h : Num k) (a b : Int) : dov 4 k a b = wkr k (wrap64 (wkr k a - wkr k b)) := dov_eq h 4 (by decide) a b
theorem d5 {k : Int} (h : Num k) (a b : Int) : dov 5 k a b = wkr k (wrap64 (wkr k a * wkr k b)) := dov_eq h 5 (by decide) a b
theorem d8 {k : Int} (h : 0 < wid k) (a b : Int) : dov 8 k a b = wkr k (bits .and .i64 (wkr k a) (wkr k b)) := dov_both h 8 (by decide) a b
theorem d9 {k : Int} (h : 0 < wid k) (a b : Int) : dov 9 k a b = wkr k (bits .or .i64 (wkr k a) (wkr k b)) := dov_both h 9 (by decide) a b
theorem d10 {k : Int} (h : 0 < wid k) (a b : Int) : dov 10 k a b = wkr k (bits .xor .i64 (wkr k a) (wkr k b)) := dov_both h 10 (by decide) a b
theorem d14 {k : Int} (h : Num k) (a b : Int) : dov 14 k a b = tru (wkr k a == wkr k b) := dov_eq h 14 (by decide) a b
theorem d15 {k : Int} (h : Num k) (a b : Int) : dov 15 k a b = tru (wkr k a != wkr k b) := dov_eq h 15 (by decide) a b
theorem d16 {k : Int} (h : Num k) (a b : Int) : dov 16 k a b = tru (blw k (wkr k a) (wkr k b)) := dov_eq h 16 (by decide) a b
theorem d17 {k : Int} (h : Num k) (a b : Int) : dov 17 k a b = tru (!(blw k (wkr k b) (wkr k a))) := dov_eq h 17 (by decide) a b
theorem d18 {k : Int} (h : Num k) (a b : Int) : dov 18 k a b = tru (blw k (wkr k b) (wkr k a)) := dov_eq h 18 (by decide) a b
theorem d19 {k : Int} (h : Num k) (a b : Int) : dov 19 k a b = tru (!(blw k (wkr k a) (wkr k b))) := dov_eq h 19 (by decide) a b

theorem d3m {k : Int} (h : Num k) (a b : Int) : dov 3 k a b % 2 ^ wid k = (a + b) % 2 ^ wid k := by
  rw [d3 h, wkr_mod _ h.wid, wrap64_modw _ _ (wid_le k)]; exact add_congr (wkr_mod _ h.wid) (wkr_mod _ h.wid)
theorem d4m {k : Int} (h : Num k) (a b : Int) : dov 4 k a b % 2 ^ wid k = (a - b) % 2 ^ wid k := by
  rw [d4 h, wkr_mod _ h.wid, wrap64_modw _ _ (wid_le k)]; exact sub_congr (wkr_mod _ h.wid) (wkr_mod _ h.wid)
theorem d5m {k : Int} (h : Num k) (a b : Int) : dov 5 k a b % 2 ^ wid k = (a * b) % 2 ^ wid k := by
  rw [d5 h, wkr_mod _ h.wid, wrap64_modw _ _ (wid_le k)]; exact mul_congr (wkr_mod _ h.wid) (wkr_mod _ h.wid)
theorem wI (k x : Int) : I64 (wkr k (wrap64 x)) := wkr_I64 (wrap64_I64 _)
theorem d3I {k : Int} (h : Num k) (a b : Int) : I64 (dov 3 k a b) := by rw [d3 h]; exact wI _ _
theorem d4I {k : Int} (h : Num k) (a b : Int) : I64 (dov 4 k a b) := by rw [d4 h]; exact wI _ _
theorem d5I {k : Int} (h : Num k) (a b : Int) : I64 (dov 5 k a b) := by rw [d5 h]; exact wI _ _
theorem d3k {k : Int} (h : Num k) (a b : Int) : isk k (dov 3 k a b) = true := by rw [d3 h]; exact isk_wkr _ h.wid
theorem d4k {k : Int} (h : Num k) (a b : Int) : isk k (dov 4 k a b) = true := by rw [d4 h]; exact isk_wkr _ h.wid
theorem d5k {k : Int} (h : Num k) (a b : Int) : isk k (dov 5 k a b) = true := by rw [d5 h]; exact isk_wkr _ h.wid
theorem isk_zero {k : Int} (h : 0 < wid k) : isk k 0 = true := by
  have : wkr k 0 = 0 := by
    rcases kinds k with rfl | rfl | rfl | rfl | rfl | rfl | rfl | rfl | rfl | hk <;> first | decide +kernel | exact wkr_none _ hk
  have e := isk_wkr 0 h
  rwa [this] at e

theorem ring_comm {k : Int} (h : Num k) (a b : Int) : dov 3 k b a = dov 3 k a b := by rw [d3 h, d3 h, Int.add_comm]
theorem ring_dist {k : Int} (h : Num k) (a b c : Int) : dov 5 k a (dov 3 k b c) = dov 3 k (dov 5 k a b) (dov 5 k a c) := by
  refine isk_ext (d5k h _ _) (d3k h _ _) (d5I h _ _) (d3I h _ _) ?_
  rw [d5m h, d3m h, mul_congr rfl (d3m h b c), add_congr (d5m h a b) (d5m h a c), Int.mul_add]
theorem ring_neg {k : Int} (h : Num k) (a : Int) : dov 3 k a (wkr k (wrap64 (-(wkr k a)))) = 0 := by
  refine isk_ext (d3k h _ _) (isk_zero h.wid) (d3I h _ _) (by unfold I64; omega) ?_
  have e : wkr k (wrap64 (-(wkr k a))) % 2 ^ wid k = (0 - a) % 2 ^ wid k := by
    rw [wkr_mod _ h.wid, wrap64_modw _ _ (wid_le k), ← Int.zero_sub]; exact sub_congr rfl (wkr_mod _ h.wid)
  rw [d3m h, add_congr rfl e, show a + (0 - a) = 0 by omega]
theorem ring_sub {k : Int} (h : Num k) (a b : Int) : dov 4 k a b = dov 3 k a (dov 5 k b (dov 4 k 0 1)) := by
  refine isk_ext (d4k h _ _) (d3k h _ _) (d4I h _ _) (d3I h _ _) ?_
  have e : (b * dov 4 k 0 1) % 2 ^ wid k = (b * (0 - 1)) % 2 ^ wid k := mul_congr rfl (d4m h 0 1)
  rw [d4m h, d3m h, add_congr rfl ((d5m h b _).trans e)]
  congr 1; omega

theorem bitI_wkr {k : Int} (h : 0 < wid k) (x : Int) (i : Nat) (hi : i < wid k) : bitI (wkr k x) i = bitI x i := bitI_congr hi (wkr_mod x h)
theorem b8 {k : Int} (h : 0 < wid k) (a b : Int) (i : Nat) (hi : i < wid k) : bitI (dov 8 k a b) i = bitI a i * bitI b i := by
  rw [d8 h, bitI_wkr h _ _ hi, bitI_and _ _ _ (Nat.lt_of_lt_of_le hi (wid_le k)), bitI_wkr h _ _ hi, bitI_wkr h _ _ hi]
theorem b9 {k : Int} (h : 0 < wid k) (a b : Int) (i : Nat) (hi : i < wid k) : bitI (dov 9 k a b) i = if bitI b i = 1 then 1 else bitI a i := by
  rw [d9 h, bitI_wkr h _ _ hi, bitI_or _ _ _ (Nat.lt_of_lt_of_le hi (wid_le k)), bitI_wkr h _ _ hi, bitI_wkr h _ _ hi]
theorem b10 {k : Int} (h : 0 < wid k) (a b : Int) (i : Nat) (hi : i < wid k) : bitI (dov 10 k a b) i = (bitI a i + bitI b i) % 2 := by
  rw [d10 h, bitI_wkr h _ _ hi, bitI_xor _ _ _ (Nat.lt_of_lt_of_le hi (wid_le k)), bitI_wkr h _ _ hi, bitI_wkr h _ _ hi]
/-- The opposite of a value's bits. -/
def notv (k a : Int) : Int := wkr k (bits .xor .i64 (-1) (wkr k a))
theorem bnot {k : Int} (h : 0 < wid k) (a : Int) (i : Nat) (hi : i < wid k) : bitI (notv k a) i = 1 - bitI a i := by
  unfold notv
  rw [bitI_wkr h _ _ hi, bitI_xor _ _ _ (Nat.lt_of_lt_of_le hi (wid_le k)), bitI_neg1, bitI_wkr h _ _ hi]
  have := bitI_bd a i
  omega
theorem dk8 {k : Int} (h : 0 < wid k) (a b : Int) : isk k (dov 8 k a b) = true ∧ I64 (dov 8 k a b) := by rw [d8 h]; exact ⟨isk_wkr _ h, wkr_I64 (bitsI64 _ _ _ (by simp))⟩
theorem dk9 {k : Int} (h : 0 < wid k) (a b : Int) : isk k (dov 9 k a b) = true ∧ I64 (dov 9 k a b) := by rw [d9 h]; exact ⟨isk_wkr _ h, wkr_I64 (bitsI64 _ _ _ (by simp))⟩
theorem dk10 {k : Int} (h : 0 < wid k) (a b : Int) : isk k (dov 10 k a b) = true ∧ I64 (dov 10 k a b) := by rw [d10 h]; exact ⟨isk_wkr _ h, wkr_I64 (bitsI64 _ _ _ (by simp))⟩
theorem dkn {k : Int} (h : 0 < wid k) (a : Int) : isk k (notv k a) = true ∧ I64 (notv k a) := ⟨isk_wkr _ h, wkr_I64 (bitsI64 _ _ _ (by simp))⟩
theorem dkw {k a : Int} (h : 0 < wid k) (ha : I64 a) : isk k (wkr k a) = true ∧ I64 (wkr k a) := ⟨isk_wkr _ h, wkr_I64 ha⟩
theorem ext_bits {k x y : Int} (hx : isk k x = true ∧ I64 x) (hy : isk k y = true ∧ I64 y) (h : ∀ i, i < wid k → bitI x i = bitI y i) : x = y :=
  isk_ext hx.1 hy.1 hx.2 hy.2 (bits_ext h)
theorem bit_cases (x : Int) (i : Nat) : bitI x i = 0 ∨ bitI x i = 1 := by have := bitI_bd x i; omega

theorem bits_absorb {k : Int} (h : 0 < wid k) {a : Int} (b : Int) (ha : I64 a) : dov 8 k a (dov 9 k a b) = wkr k a := by
  refine ext_bits (dk8 h _ _) (dkw h ha) fun i hi => ?_
  rw [b8 h _ _ _ hi, b9 h _ _ _ hi, bitI_wkr h _ _ hi]
  rcases bit_cases a i with e | e <;> rcases bit_cases b i with f | f <;> rw [e, f] <;> rfl
theorem bits_xnot {k : Int} (h : 0 < wid k) (a : Int) : dov 10 k a (notv k a) = wkr k (-1) := by
  refine ext_bits (dk10 h _ _) (dkw h (by unfold I64; omega)) fun i hi => ?_
  rw [b10 h _ _ _ hi, bnot h _ _ hi, bitI_wkr h _ _ hi, bitI_neg1]
  rcases bit_cases a i with e | e <;> rw [e] <;> rfl
theorem bits_anot {k : Int} (h : 0 < wid k) (a : Int) : dov 8 k a (notv k a) = 0 := by
  refine ext_bits (dk8 h _ _) ⟨isk_zero h, by unfold I64; omega⟩ fun i hi => ?_
  rw [b8 h _ _ _ hi, bnot h _ _ hi]
  have e0 : bitI 0 i = 0 := by unfold bitI; simp
  rw [e0]
  rcases bit_cases a i with e | e <;> rw [e] <;> rfl
theorem bits_onot {k : Int} (h : 0 < wid k) (a : Int) : dov 9 k a (notv k a) = wkr k (-1) := by
  refine ext_bits (dk9 h _ _) (dkw h (by unfold I64; omega)) fun i hi => ?_
  rw [b9 h _ _ _ hi, bnot h _ _ hi, bitI_wkr h _ _ hi, bitI_neg1]
  rcases bit_cases a i with e | e <;> rw [e] <;> rfl
theorem bits_morgan {k : Int} (h : 0 < wid k) (a b : Int) : notv k (dov 8 k a b) = dov 9 k (notv k a) (notv k b) := by
  refine ext_bits (dkn h _) (dk9 h _ _) fun i hi => ?_
  rw [bnot h _ _ hi, b8 h _ _ _ hi, b9 h _ _ _ hi, bnot h _ _ hi, bnot h _ _ hi]
  rcases bit_cases a i with e | e <;> rcases bit_cases b i with f | f <;> rw [e, f] <;> rfl
theorem bits_xor {k : Int} (h : 0 < wid k) (a b : Int) : dov 10 k a b = dov 8 k (dov 9 k a b) (notv k (dov 8 k a b)) := by
  refine ext_bits (dk10 h _ _) (dk8 h _ _) fun i hi => ?_
  rw [b10 h _ _ _ hi, b8 h _ _ _ hi, b9 h _ _ _ hi, bnot h _ _ hi, b8 h _ _ _ hi]
  rcases bit_cases a i with e | e <;> rcases bit_cases b i with f | f <;> rw [e, f] <;> rfl
theorem bits_dist {k : Int} (h : 0 < wid k) (a b c : Int) : dov 8 k a (dov 9 k b c) = dov 9 k (dov 8 k a b) (dov 8 k a c) := by
  refine ext_bits (dk8 h _ _) (dk9 h _ _) fun i hi => ?_
  rw [b8 h _ _ _ hi, b9 h _ _ _ hi, b9 h _ _ _ hi, b8 h _ _ _ hi, b8 h _ _ _ hi]
  rcases bit_cases a i with e | e <;> rcases bit_cases b i with f | f <;> rcases bit_cases c i with g | g <;> rw [e, f, g] <;> rfl
theorem bits_xx {k : Int} (h : 0 < wid k) {a : Int} (b : Int) (ha : I64 a) : dov 10 k (dov 10 k a b) b = wkr k a := by
  refine ext_bits (dk10 h _ _) (dkw h ha) fun i hi => ?_
  rw [b10 h _ _ _ hi, b10 h _ _ _ hi, bitI_wkr h _ _ hi]
  rcases bit_cases a i with e | e <;> rcases bit_cases b i with f | f <;> rw [e, f] <;> rfl

/-! orders -/
theorem blw_nine' (a b : Int) : blw 9 a b = decide (a % 18446744073709551616 < b % 18446744073709551616) := by simp only [blw, if_true, u64_eq]
theorem blw_tri {k a b : Int} (ha : I64 a) (hb : I64 b) : (blw k a b = true ∧ (a == b) = false ∧ blw k b a = false) ∨ (blw k a b = false ∧ (a == b) = true ∧ blw k b a = false) ∨ (blw k a b = false ∧ (a == b) = false ∧ blw k b a = true) := by
  by_cases h9 : k = 9
  · subst h9
    rw [blw_nine', blw_nine']
    unfold I64 at ha hb
    simp only [decide_eq_true_eq, decide_eq_false_iff_not, beq_iff_eq, beq_eq_false_iff_ne]
    omega
  · simp only [blw, if_neg h9, decide_eq_true_eq, decide_eq_false_iff_not, beq_iff_eq, beq_eq_false_iff_ne]
    omega
theorem blw_trans {k a b c : Int} (h1 : blw k a b = true) (h2 : blw k b c = true) : blw k a c = true := by
  by_cases h9 : k = 9
  · subst h9
    rw [blw_nine'] at *
    simp only [decide_eq_true_eq] at *
    omega
  · simp only [blw, if_neg h9, decide_eq_true_eq] at *
    omega
/-- The next value: either it is not above, and then there is none above; or nothing lies between. -/
theorem blw_next {k a b : Int} (hk : Num k) (ha : isk k a = true) (hb : isk k b = true) (ia : I64 a) (ib : I64 b) :
    (blw k a (wkr k (wrap64 (a + 1))) = false → blw k a b = false) ∧ (blw k a b = true → blw k (b) (wkr k (wrap64 (a + 1))) = false) := by
  have h1 := (isk_iff.1 ha).2
  have h2 := (isk_iff.1 hb).2
  unfold I64 at ia ib
  unfold Num at hk
  rcases (show k = 2 ∨ k = 3 ∨ k = 4 ∨ k = 5 ∨ k = 6 ∨ k = 7 ∨ k = 8 ∨ k = 9 by omega) with rfl | rfl | rfl | rfl | rfl | rfl | rfl | rfl
  · rw [wkr_2] at *; simp only [blw, show ¬ ((2 : Int) = 9) by decide, if_false, decide_eq_true_eq, decide_eq_false_iff_not, wrap64_eq]; omega
  · rw [wkr_3] at *; simp only [blw, show ¬ ((3 : Int) = 9) by decide, if_false, decide_eq_true_eq, decide_eq_false_iff_not, wrap64_eq]; omega
  · rw [wkr_4] at *; simp only [blw, show ¬ ((4 : Int) = 9) by decide, if_false, decide_eq_true_eq, decide_eq_false_iff_not, wrap64_eq]; omega
  · rw [wkr_5] at *; simp only [blw, show ¬ ((5 : Int) = 9) by decide, if_false, decide_eq_true_eq, decide_eq_false_iff_not, wrap64_eq]; omega
  · rw [wkr_6] at *; simp only [blw, show ¬ ((6 : Int) = 9) by decide, if_false, decide_eq_true_eq, decide_eq_false_iff_not, wrap64_eq]; omega
  · rw [wkr_7] at *; simp only [blw, show ¬ ((7 : Int) = 9) by decide, if_false, decide_eq_true_eq, decide_eq_false_iff_not, wrap64_eq]; omega
  · rw [wkr_8] at *; simp only [blw, show ¬ ((8 : Int) = 9) by decide, if_false, decide_eq_true_eq, decide_eq_false_iff_not, wrap64_eq]; omega
  · rw [wkr_9] at *; rw [blw_nine', blw_nine', blw_nine']; simp only [decide_eq_true_eq, decide_eq_false_iff_not, wrap64_eq]; omega
theorem blw_zero_u {k a : Int} (hk : 6 ≤ k ∧ k ≤ 9) (ha : isk k a = true) : blw k a 0 = false := by
  have h1 := (isk_iff.1 ha).2
  rcases (show k = 6 ∨ k = 7 ∨ k = 8 ∨ k = 9 by omega) with rfl | rfl | rfl | rfl
  · rw [wkr_6] at h1; simp only [blw, show ¬ ((6 : Int) = 9) by decide, if_false, decide_eq_false_iff_not]; omega
  · rw [wkr_7] at h1; simp only [blw, show ¬ ((7 : Int) = 9) by decide, if_false, decide_eq_false_iff_not]; omega
  · rw [wkr_8] at h1; simp only [blw, show ¬ ((8 : Int) = 9) by decide, if_false, decide_eq_false_iff_not]; omega
  · rw [blw_nine']; simp only [decide_eq_false_iff_not]; omega
theorem blw_zero_s {k a : Int} (hk : 2 ≤ k ∧ k ≤ 5) : blw k a 0 = decide (a < 0) := by
  simp only [blw, show ¬ (k = 9) by omega, if_false]
theorem neg_neg {k a : Int} (h : Num k) (ha : I64 a) : wkr k (wrap64 (-(wkr k (wrap64 (-(wkr k a)))))) = wkr k a := by
  refine isk_ext (isk_wkr _ h.wid) (isk_wkr _ h.wid) (wI _ _) (wkr_I64 ha) ?_
  have e : ∀ x, wkr k (wrap64 (-x)) % 2 ^ wid k = (0 - x) % 2 ^ wid k := fun x => by
    rw [wkr_mod _ h.wid, wrap64_modw _ _ (wid_le k), Int.zero_sub]
  rw [e, sub_congr rfl (e _), wkr_mod _ h.wid]
  have e2 : (0 - (0 - wkr k a)) % 2 ^ wid k = wkr k a % 2 ^ wid k := by congr 1; omega
  rw [e2, wkr_mod _ h.wid]
end Go.Proofs.Ytipfcfaigbeakaa

namespace Go.Proofs.Ytipfcfaigbeakaa
open Go.RowKit
set_option linter.unusedSimpArgs false
set_option linter.unusedVariables false
set_option maxRecDepth 100000

/-- A value of a kind. -/
def ValK (k v : Int) : Prop := isk k v = true ∧ I64 v
/-- Values of kinds, one by one. -/
def ValsK (ks vs : List Int) : Prop := ks.length = vs.length ∧ ∀ (j : Nat) (k v : Int), ks[j]? = some k → vs[j]? = some v → ValK k v
theorem ValsK.nil : ValsK [] [] := ⟨rfl, fun j k v h => by simp at h⟩
theorem ValsK.append {ks vs ks2 vs2 : List Int} (h : ValsK ks vs) (h2 : ValsK ks2 vs2) : ValsK (ks ++ ks2) (vs ++ vs2) := by
  refine ⟨by rw [List.length_append, List.length_append, h.1, h2.1], fun j k v hk hv => ?_⟩
  by_cases hj : j < ks.length
  · rw [List.getElem?_append_left hj] at hk
    rw [List.getElem?_append_left (by rw [← h.1]; exact hj)] at hv
    exact h.2 j k v hk hv
  · rw [List.getElem?_append_right (by omega)] at hk
    rw [List.getElem?_append_right (by rw [← h.1]; omega), ← h.1] at hv
    exact h2.2 _ k v hk hv
theorem ValsK.one {k v : Int} (h : ValK k v) : ValsK [k] [v] := by
  refine ⟨rfl, fun j k' v' hk hv => ?_⟩
  match j with
  | 0 => simp at hk hv; subst hk; subst hv; exact h
  | j + 1 => simp at hk
theorem ValsK.snoc {ks vs : List Int} {k v : Int} (h : ValsK ks vs) (hv : ValK k v) : ValsK (ks ++ [k]) (vs ++ [v]) := h.append (ValsK.one hv)
theorem snoc_of {l : List Int} {n : Nat} (h : n + 1 = l.length) : ∃ r x, l = r ++ [x] := by
  have hl : l ≠ [] := by intro e; rw [e] at h; simp at h
  exact ⟨l.dropLast, l.getLast hl, (List.dropLast_concat_getLast hl).symm⟩
theorem ValsK.unsnoc {ks vs : List Int} {k : Int} (h : ValsK (ks ++ [k]) vs) : ∃ r x, vs = r ++ [x] ∧ ValsK ks r ∧ ValK k x := by
  obtain ⟨r, x, rfl⟩ := snoc_of (l := vs) (n := ks.length) (by have := h.1; simp at this; simp [this])
  have hl : ks.length = r.length := by have := h.1; simp at this; omega
  refine ⟨r, x, rfl, ⟨hl, fun j k' v hk hv => ?_⟩, ?_⟩
  · have h1 := (List.getElem?_eq_some_iff.1 hk).1
    exact h.2 j k' v (by rw [List.getElem?_append_left h1]; exact hk) (by rw [List.getElem?_append_left (by omega)]; exact hv)
  · exact h.2 ks.length k x (by rw [List.getElem?_append_right (Nat.le_refl _)]; simp) (by rw [hl, List.getElem?_append_right (Nat.le_refl _)]; simp)
theorem ValsK.set {ks vs : List Int} {j : Nat} {k v : Int} (h : ValsK ks vs) (hk : ks[j]? = some k) (hv : ValK k v) : ValsK ks (vs.set j v) := by
  refine ⟨by rw [List.length_set]; exact h.1, fun i k' v' h1 h2 => ?_⟩
  by_cases e : j = i
  · subst e
    rw [List.getElem?_set] at h2
    have hl := (List.getElem?_eq_some_iff.1 hk).1
    rw [if_pos rfl, if_pos (by rw [← h.1]; exact hl)] at h2
    rw [hk] at h1
    simp at h1 h2; subst h1; subst h2; exact hv
  · rw [List.getElem?_set, if_neg e] at h2
    exact h.2 i k' v' h1 h2
theorem ValsK.get {ks vs : List Int} {j : Nat} {k : Int} (h : ValsK ks vs) (hk : ks[j]? = some k) : ∃ v, vs[j]? = some v ∧ ValK k v := by
  have hl := (List.getElem?_eq_some_iff.1 hk).1
  have hl2 : j < vs.length := by rw [← h.1]; exact hl
  exact ⟨vs[j], List.getElem?_eq_getElem hl2, h.2 j k _ hk (List.getElem?_eq_getElem hl2)⟩
theorem ValsK.drop {ks vs : List Int} (h : ValsK ks vs) (n : Nat) : ValsK (ks.drop n) (vs.drop n) :=
  ⟨by rw [List.length_drop, List.length_drop, h.1], fun j k v hk hv => h.2 (n + j) k v (by rw [← List.getElem?_drop]; exact hk) (by rw [← List.getElem?_drop]; exact hv)⟩
theorem ValsK.take {ks vs : List Int} (h : ValsK ks vs) (n : Nat) : ValsK (ks.take n) (vs.take n) := by
  refine ⟨by rw [List.length_take, List.length_take, h.1], fun j k v hk hv => ?_⟩
  rw [List.getElem?_take] at hk hv
  split at hk
  · rw [if_pos (by assumption)] at hv; exact h.2 j k v hk hv
  · cases hk
theorem popV_some {l m : List Int} {k : Int} (h : popV l k = some m) : l = m ++ [k] := by
  unfold popV at h
  split at h
  · rename_i h1
    obtain rfl := Option.some.inj h
    obtain ⟨hl, h2⟩ := List.getLast?_eq_some_iff.1 h1
    rw [h2]; simp
  · cases h
/-- What an operation on one value gives is of its kind. -/
theorem un_kind {o k a : Int} (h : (unv o k 0).2 = true) (ha : ValK k a) : ValK k (unv o k a).1 ∧ (unv o k a).2 = true := by
  have hw := (isk_iff.1 ha.1).1
  unfold unv at h ⊢
  rw [if_neg (by rw [isk_zero hw]; decide)] at h
  rw [if_neg (by rw [ha.1]; decide)]
  by_cases h1 : o = 1
  · rw [if_pos h1]
    by_cases h2 : k = 1
    · rw [if_pos h2]; subst h2
      rcases isk_one ha.1 with e | e <;> subst e <;> exact ⟨⟨by decide +kernel, wrap64_I64 _⟩, rfl⟩
    · rw [if_neg h2]; exact ⟨⟨isk_wkr _ hw, wkr_I64 (bitsI64 _ _ _ (by simp))⟩, rfl⟩
  · rw [if_neg h1] at h ⊢
    by_cases h3 : o = 2
    · rw [if_pos h3] at h ⊢
      by_cases h2 : k = 1
      · rw [if_pos h2] at h; cases h
      · rw [if_neg h2]; exact ⟨⟨isk_wkr _ hw, wI _ _⟩, rfl⟩
    · rw [if_neg h3] at h; cases h
theorem bin_kind {o k k2 a b : Int} (h : bkind o k = some k2) (ha : ValK k a) (hb : ValK k b) : ValK k2 (binv o k a b).1 := by
  have hw := (isk_iff.1 ha.1).1
  have e : binOk o k a b = binOk o k 0 0 := by unfold binOk; rw [ha.1, hb.1, isk_zero hw]
  unfold bkind at h
  cases h0 : binOk o k 0 0 with
  | false => rw [binv_no h0] at h; simp at h
  | true =>
    rw [binv_yes h0] at h
    simp only [if_true, Option.some.injEq] at h
    rw [binv_yes (e.trans h0)]
    refine ⟨?_, binr_I64 _ ha.2 hb.2⟩
    rw [← h, binr_snd o.toNat k 0 0 a b]
    refine binr_is _ _ _ hw ?_
    intro h1
    simp [binOk, h1, fits0] at h0
theorem cast_kind {f t a : Int} (h : 0 < width t) (ha : ValK f a) : ValK t (castv f t a).1 := by
  have hw : 0 < wid t := by have := width_wid t; omega
  unfold castv
  rw [if_neg (by rw [ha.1]; simp; omega)]
  by_cases h1 : t = 1
  · rw [if_pos h1]; subst h1; exact ⟨isk_tru _, tru_I64 _⟩
  · rw [if_neg h1]; exact dkw hw ha.2

/-- What an instruction that is none of the end does to slots, stack and place. -/
def doV (q : InsV) (s t : List Int) (i : Nat) : List Int × List Int × Nat :=
  if q.op = 1 then (s, t ++ [q.n], i + 1)
  else if q.op = 2 then (s, t ++ [s.getD q.n.toNat 0], i + 1)
  else if q.op = 3 then (s.set q.n.toNat (t.getLastD 0), t.dropLast, i + 1)
  else if q.op = 4 then (s, t.dropLast ++ [(unv q.n q.k (t.getLastD 0)).1], i + 1)
  else if q.op = 5 then (s, t.dropLast.dropLast ++ [(binv q.n q.k (t.dropLast.getLastD 0) (t.getLastD 0)).1], i + 1)
  else if q.op = 6 then (s, t.dropLast ++ [(castv q.n q.k (t.getLastD 0)).1], i + 1)
  else if q.op = 7 then (s, t, i + 1 + q.n.toNat)
  else (s, t.dropLast, if t.getLastD 0 = 0 then i + 1 + q.n.toNat else i + 1)
/-- The ways in which an instruction is done, with what it then meets. -/
inductive DoesV (N : Nat) (q : InsV) (s t : List Int) (i : Nat) : List Int → List Int → Nat → Prop
  | push : q.op = 1 → DoesV N q s t i s (t ++ [q.n]) (i + 1)
  | load (j : Nat) (x : Int) : q.op = 2 → q.n = (j : Int) → s[j]? = some x → DoesV N q s t i s (t ++ [x]) (i + 1)
  | save (j : Nat) (r : List Int) (x : Int) : q.op = 3 → q.n = (j : Int) → j < s.length → t = r ++ [x] → DoesV N q s t i (s.set j x) r (i + 1)
  | un (r : List Int) (x : Int) : q.op = 4 → t = r ++ [x] → I64 x → DoesV N q s t i s (r ++ [(unv q.n q.k x).1]) (i + 1)
  | bin (r : List Int) (x y : Int) : q.op = 5 → t = r ++ [x] ++ [y] → I64 x → I64 y → DoesV N q s t i s (r ++ [(binv q.n q.k x y).1]) (i + 1)
  | cast (r : List Int) (x : Int) : q.op = 6 → t = r ++ [x] → I64 x → DoesV N q s t i s (r ++ [(castv q.n q.k x).1]) (i + 1)
  | jump (j : Nat) : q.op = 7 → q.n = (j : Int) → i + 1 + j < N → DoesV N q s t i s t (i + 1 + j)
  | branch (j : Nat) (r : List Int) (x : Int) : q.op = 8 → q.n = (j : Int) → i + 1 + j < N → t = r ++ [x] → DoesV N q s t i s r (if x = 0 then i + 1 + j else i + 1)
theorem DoesV.is {N : Nat} {q : InsV} {s t : List Int} {i : Nat} {s' t' : List Int} {i' : Nat} (h : DoesV N q s t i s' t' i') : doV q s t i = (s', t', i') := by
  unfold doV
  cases h with
  | push h => rw [if_pos h]
  | load j x h e hx => rw [if_neg (by omega), if_pos h, e]; simp [List.getD, hx]
  | save j r x h e hj ht => rw [if_neg (by omega), if_neg (by omega), if_pos h, e, ht]; simp
  | un r x h ht => rw [if_neg (by omega), if_neg (by omega), if_neg (by omega), if_pos h, ht]; simp
  | bin r x y h ht => rw [if_neg (by omega), if_neg (by omega), if_neg (by omega), if_neg (by omega), if_pos h, ht]; simp
  | cast r x h ht => rw [if_neg (by omega), if_neg (by omega), if_neg (by omega), if_neg (by omega), if_neg (by omega), if_pos h, ht]; simp
  | jump j h e => rw [if_neg (by omega), if_neg (by omega), if_neg (by omega), if_neg (by omega), if_neg (by omega), if_neg (by omega), if_pos h, e]; rfl
  | branch j r x h e _ ht => rw [if_neg (by omega), if_neg (by omega), if_neg (by omega), if_neg (by omega), if_neg (by omega), if_neg (by omega), if_neg (by omega), e, ht]; simp
theorem DoesV.on {N : Nat} {q : InsV} {s t : List Int} {i : Nat} {s' t' : List Int} {i' : Nat} (h : DoesV N q s t i s' t' i') : i + 1 ≤ i' := by
  cases h with
  | branch j r x h e _ ht => split <;> omega
  | _ => omega
/-- The run: slots at the end, and how many instructions were run. -/
def endV (body : List InsV) : Nat → List Int → List Int → Nat → Nat → List Int × Nat
  | 0, s, _, _, n => (s, n)
  | f + 1, s, t, i, n =>
    match body[i]? with
    | none => (s, n)
    | some q => if q.op = 9 then (s, n + 1) else endV body f (doV q s t i).1 (doV q s t i).2.1 (doV q s t i).2.2 (n + 1)
/-- What the check has told of each place. -/
structure Fin (c : CodeV) (fin : Known) : Prop where
  first : fin 0 = some []
  low : StOk c.stack fin
  step : ∀ (i : Nat) (q : InsV) (l : List Int), c.body[i]? = some q → fin i = some l → ∃ m ws, stepV c q l = some m ∧ waysV q i c.body.length = some ws ∧ ∀ w ∈ ws, fin w = some m
theorem putV_keep {st st' : Known} {w : Nat} {l : List Int} (h : putV st w l = some st') : st' w = some l ∧ (∀ j m, st j = some m → st' j = some m) ∧ ∀ j, j ≠ w → st' j = st j := by
  unfold putV at h
  split at h
  · rename_i h0
    obtain rfl := Option.some.inj h
    refine ⟨by simp, fun j m hj => ?_, fun j hj => by simp [hj]⟩
    by_cases e : j = w
    · subst e; rw [h0] at hj; cases hj
    · simp [e, hj]
  · rename_i m h0
    split at h
    · rename_i h1
      obtain rfl := Option.some.inj h
      exact ⟨by rw [h0, h1], fun j m hj => hj, fun j _ => rfl⟩
    · cases h
theorem putsV_keep {l : List Int} : ∀ {ws : List Nat} {st st' : Known}, putsV l ws st = some st' → (∀ w ∈ ws, st' w = some l) ∧ (∀ j m, st j = some m → st' j = some m) ∧ ∀ j, j ∉ ws → st' j = st j
  | [], st, st', h => by simp only [putsV, Option.some.injEq] at h; subst h; exact ⟨by simp, fun _ _ h => h, fun _ _ => rfl⟩
  | w :: ws, st, st', h => by
    simp only [putsV] at h
    cases h1 : putV st w l with
    | none => rw [h1] at h; cases h
    | some s1 =>
      rw [h1] at h
      obtain ⟨a1, a2, a3⟩ := putV_keep h1
      obtain ⟨b1, b2, b3⟩ := putsV_keep (ws := ws) (st := s1) (st' := st') h
      refine ⟨fun v hv => ?_, fun j m hj => b2 j m (a2 j m hj), fun j hj => ?_⟩
      · rcases List.mem_cons.1 hv with e | e
        · subst e; exact b2 _ _ a1
        · exact b1 v e
      · simp only [List.mem_cons, not_or] at hj
        rw [b3 j hj.2, a3 j hj.1]
theorem ways_later {q : InsV} {i n : Nat} {ws : List Nat} (h : waysV q i n = some ws) : ∀ w ∈ ws, i < w := by
  unfold waysV at h
  intro w hw
  split at h
  · split at h
    · obtain rfl := Option.some.inj h; simp at hw; omega
    · cases h
  · split at h
    · split at h
      · obtain rfl := Option.some.inj h; simp at hw; omega
      · cases h
    · split at h
      · obtain rfl := Option.some.inj h; simp at hw
      · obtain rfl := Option.some.inj h; simp at hw; omega
theorem advV_keep {c : CodeV} {q : InsV} {i : Nat} {st st' : Known} (h : advV c q i st = some st') :
    (∀ l, st i = some l → ∃ m ws, stepV c q l = some m ∧ waysV q i c.body.length = some ws ∧ ∀ w ∈ ws, st' w = some m) ∧ (∀ j m, st j = some m → st' j = some m) ∧ (∀ j, j ≤ i → st' j = st j) ∧ (StOk c.stack st → StOk c.stack st') := by
  unfold advV at h
  cases hi : st i with
  | none => rw [hi] at h; obtain rfl := Option.some.inj h; exact ⟨fun l hl => (by cases hl), fun _ _ h => h, fun _ _ => rfl, id⟩
  | some l =>
    rw [hi] at h
    dsimp only at h
    cases hs : stepV c q l with
    | none => rw [hs] at h; cases h
    | some m =>
      rw [hs] at h
      dsimp only at h
      split at h
      · rename_i hm
        cases hw : waysV q i c.body.length with
        | none => rw [hw] at h; cases h
        | some ws =>
          rw [hw] at h
          obtain ⟨b1, b2, b3⟩ := putsV_keep (ws := ws) (st := st) (st' := st') h
          refine ⟨fun l' hl' => ?_, b2, fun j hj => b3 j (fun hm => by have := ways_later hw j hm; omega), fun ho => StOk.puts hm ws ho h⟩
          obtain rfl := Option.some.inj hl'
          exact ⟨m, ws, hs, rfl, b1⟩
      · cases h
theorem runV_keep {c : CodeV} : ∀ (qs : List InsV) (i : Nat) (st fin : Known), runV c qs i st = some fin → StOk c.stack st →
    (∀ (k : Nat) (q : InsV) (l : List Int), qs[k]? = some q → fin (i + k) = some l → ∃ m ws, stepV c q l = some m ∧ waysV q (i + k) c.body.length = some ws ∧ ∀ w ∈ ws, fin w = some m) ∧ (∀ j m, st j = some m → fin j = some m) ∧ (∀ j, j ≤ i → fin j = st j) ∧ StOk c.stack fin
  | [], i, st, fin, h, ho => by
    simp only [runV, Option.some.injEq] at h
    subst h
    exact ⟨fun k q l hq => by simp at hq, fun _ _ h => h, fun _ _ => rfl, ho⟩
  | q :: qs, i, st, fin, h, ho => by
    simp only [runV] at h
    cases h1 : advV c q i st with
    | none => rw [h1] at h; cases h
    | some s1 =>
      rw [h1] at h
      obtain ⟨a1, a2, a3, a4⟩ := advV_keep h1
      obtain ⟨b1, b2, b3, b4⟩ := runV_keep qs (i + 1) s1 fin h (a4 ho)
      refine ⟨fun k q' l hk hl => ?_, fun j m hj => b2 j m (a2 j m hj), fun j hj => by rw [b3 j (by omega), a3 j hj], b4⟩
      match k with
      | 0 =>
        simp only [List.getElem?_cons_zero, Option.some.injEq] at hk
        subst hk
        rw [Nat.add_zero, b3 i (by omega), a3 i (Nat.le_refl _)] at hl
        obtain ⟨m, ws, c1, c2, c3⟩ := a1 l hl
        exact ⟨m, ws, c1, c2, fun w hw => b2 w m (c3 w hw)⟩
      | k + 1 =>
        rw [List.getElem?_cons_succ] at hk
        rw [show i + (k + 1) = i + 1 + k by omega] at hl ⊢
        exact b1 k q' l hk hl
/-- What a check that finds nothing has told. -/
theorem chk_fin {c : CodeV} (h : chk c = 0) : Formed c ∧ c.body.length ≤ 60000 ∧ c.kinds.length ≤ 8000 ∧ c.stack ≤ 64 ∧ ∃ fin, Fin c fin := by
  unfold chk at h
  split at h
  · cases h
  · rename_i hs
    split at h
    · cases h
    · rename_i hf
      have F := formed_of (by simpa using hf)
      refine ⟨F, by omega, by omega, by omega, ?_⟩
      split at h
      · cases h
      · rename_i hr
        cases hR : runV c c.body 0 start with
        | none => rw [hR] at hr; simp at hr
        | some fin =>
          obtain ⟨b1, b2, b3, b4⟩ := runV_keep c.body 0 start fin hR (StOk.start F.stack)
          exact ⟨fin, b2 0 [] (by rfl), b4, fun i q l hq hl => by have := b1 i q l hq (by rw [Nat.zero_add]; exact hl); rwa [Nat.zero_add] at this⟩
/-- Where a run stands. -/
structure AtV (c : CodeV) (fin : Known) (s t : List Int) (i n : Nat) : Prop where
  lt : i < c.body.length
  vals : ValsK c.kinds s
  stack : ∃ l, fin i = some l ∧ ValsK l t
  count : n ≤ i
theorem AtV.high {c : CodeV} {fin : Known} {s t : List Int} {i n : Nat} (h : AtV c fin s t i n) (F : Fin c fin) (hs : c.stack ≤ 64) : t.length ≤ 64 := by
  obtain ⟨l, h1, h2⟩ := h.stack
  have := F.low i l h1
  have := h2.1
  omega
theorem last_opV {c : CodeV} (F : Formed c) {i : Nat} {q : InsV} (hq : c.body[i]? = some q) (h9 : q.op ≠ 9) : i + 1 < c.body.length := by
  have hl := (List.getElem?_eq_some_iff.1 hq).1
  have h := F.last
  rw [List.getLast?_eq_getElem?] at h
  apply Classical.byContradiction
  intro h1
  rw [show c.body.length - 1 = i by omega, hq] at h
  simp at h
  exact h9 h
set_option maxHeartbeats 1000000 in
/-- One step of the run: it ends with nothing on the stack, or it does its instruction. -/
theorem AtV.next {c : CodeV} {fin : Known} {s t : List Int} {i n : Nat} {q : InsV} (h : AtV c fin s t i n) (F : Fin c fin) (G : Formed c) (hI : ∀ q ∈ c.body, I64 q.op ∧ I64 q.n ∧ I64 q.k) (hq : c.body[i]? = some q) :
    (q.op = 9 ∧ t = []) ∨ (q.op ≠ 9 ∧ ∃ s' t' i', DoesV c.body.length q s t i s' t' i' ∧ AtV c fin s' t' i' (n + 1)) := by
  obtain ⟨hlt, hv, ⟨l, hl, ht⟩, hn⟩ := h
  obtain ⟨m, ws, h1, h2, h3⟩ := F.step i q l hq hl
  obtain ⟨o1, o2⟩ := G.ops i q hq
  have hqI := hI q (List.mem_of_getElem? hq)
  have next : q.op ≠ 7 → q.op ≠ 8 → q.op ≠ 9 → fin (i + 1) = some m := fun a b d => by
    unfold waysV at h2
    rw [if_neg a, if_neg b, if_neg d] at h2
    obtain rfl := Option.some.inj h2
    exact h3 _ (by simp)
  unfold stepV at h1
  by_cases e9 : q.op = 9
  · left
    refine ⟨e9, ?_⟩
    rw [if_neg (by omega), if_neg (by omega), if_neg (by omega), if_neg (by omega), if_neg (by omega), if_neg (by omega), if_neg (by omega), if_neg (by omega)] at h1
    split at h1
    · rename_i h0
      have := ht.1
      rw [h0.2.2] at this
      exact List.eq_nil_of_length_eq_zero this.symm
    · cases h1
  right
  refine ⟨e9, ?_⟩
  have hl1 := last_opV G hq e9
  by_cases e1 : q.op = 1
  · rw [if_pos e1] at h1
    split at h1
    · rename_i h0
      obtain rfl := Option.some.inj h1
      exact ⟨_, _, _, .push e1, hl1, hv, ⟨_, next (by omega) (by omega) e9, ht.snoc ⟨h0, hqI.2.1⟩⟩, by omega⟩
    · cases h1
  rw [if_neg e1] at h1
  by_cases e2 : q.op = 2
  · rw [if_pos e2] at h1
    split at h1
    · unfold kindAt at h1
      split at h1
      · rename_i h0
        cases hk : c.kinds[q.n.toNat]? with
        | none => rw [hk] at h1; cases h1
        | some k =>
          rw [hk] at h1
          obtain rfl := Option.some.inj h1
          obtain ⟨x, hx, hkx⟩ := hv.get hk
          exact ⟨_, _, _, .load q.n.toNat x e2 (by omega) hx, hl1, hv, ⟨_, next (by omega) (by omega) e9, ht.snoc hkx⟩, by omega⟩
      · cases h1
    · cases h1
  rw [if_neg e2] at h1
  by_cases e3 : q.op = 3
  · rw [if_pos e3] at h1
    split at h1
    · unfold kindAt at h1
      split at h1
      · rename_i h0
        cases hk : c.kinds[q.n.toNat]? with
        | none => rw [hk] at h1; cases h1
        | some k =>
          rw [hk] at h1
          have hp : popV l k = some m := h1
          rw [popV_some hp] at ht
          obtain ⟨r, x, rfl, hr, hx⟩ := ht.unsnoc
          exact ⟨_, _, _, .save q.n.toNat r x e3 (by omega) (by rw [← hv.1]; exact (List.getElem?_eq_some_iff.1 hk).1) rfl, hl1, hv.set hk hx, ⟨_, next (by omega) (by omega) e9, hr⟩, by omega⟩
      · cases h1
    · cases h1
  rw [if_neg e3] at h1
  by_cases e4 : q.op = 4
  · rw [if_pos e4] at h1
    split at h1
    · rename_i h0
      cases hp : popV l q.k with
      | none => rw [hp] at h1; cases h1
      | some r0 =>
        rw [hp] at h1
        obtain rfl := Option.some.inj h1
        rw [popV_some hp] at ht
        obtain ⟨r, x, rfl, hr, hx⟩ := ht.unsnoc
        exact ⟨_, _, _, .un r x e4 rfl hx.2, hl1, hv, ⟨_, next (by omega) (by omega) e9, hr.snoc (un_kind h0 hx).1⟩, by omega⟩
    · cases h1
  rw [if_neg e4] at h1
  by_cases e5 : q.op = 5
  · rw [if_pos e5] at h1
    cases hp : popV l q.k with
    | none => rw [hp] at h1; cases h1
    | some r0 =>
      rw [hp] at h1
      simp only [Option.bind_some] at h1
      cases hp2 : popV r0 q.k with
      | none => rw [hp2] at h1; cases h1
      | some r1 =>
        rw [hp2] at h1
        simp only [Option.bind_some] at h1
        cases hb : bkind q.n q.k with
        | none => rw [hb] at h1; cases h1
        | some k2 =>
          rw [hb] at h1
          obtain rfl := Option.some.inj h1
          rw [popV_some hp, popV_some hp2] at ht
          obtain ⟨r', y, rfl, hr', hy⟩ := ht.unsnoc
          obtain ⟨r, x, rfl, hr, hx⟩ := hr'.unsnoc
          exact ⟨_, _, _, .bin r x y e5 rfl hx.2 hy.2, hl1, hv, ⟨_, next (by omega) (by omega) e9, hr.snoc (bin_kind hb hx hy)⟩, by omega⟩
  rw [if_neg e5] at h1
  by_cases e6 : q.op = 6
  · rw [if_pos e6] at h1
    split at h1
    · rename_i h0
      cases hp : popV l q.n with
      | none => rw [hp] at h1; cases h1
      | some r0 =>
        rw [hp] at h1
        obtain rfl := Option.some.inj h1
        rw [popV_some hp] at ht
        obtain ⟨r, x, rfl, hr, hx⟩ := ht.unsnoc
        exact ⟨_, _, _, .cast r x e6 rfl hx.2, hl1, hv, ⟨_, next (by omega) (by omega) e9, hr.snoc (cast_kind h0 hx)⟩, by omega⟩
    · cases h1
  rw [if_neg e6] at h1
  by_cases e7 : q.op = 7
  · rw [if_pos e7] at h1
    split at h1
    · obtain rfl := Option.some.inj h1
      unfold waysV at h2
      rw [if_pos e7] at h2
      split at h2
      · obtain rfl := Option.some.inj h2
        exact ⟨_, _, _, .jump q.n.toNat e7 (by omega) (by omega), by omega, hv, ⟨_, h3 _ (by simp), ht⟩, by omega⟩
      · cases h2
    · cases h1
  rw [if_neg e7] at h1
  have e8 : q.op = 8 := by omega
  rw [if_pos e8] at h1
  split at h1
  · rw [popV_some h1] at ht
    obtain ⟨r, x, rfl, hr, hx⟩ := ht.unsnoc
    unfold waysV at h2
    rw [if_neg e7, if_pos e8] at h2
    split at h2
    · obtain rfl := Option.some.inj h2
      refine ⟨_, _, _, .branch q.n.toNat r x e8 (by omega) (by omega) rfl, by split <;> omega, hv, ⟨m, ?_, hr⟩, by split <;> omega⟩
      split
      · exact h3 _ (by simp)
      · exact h3 _ (by simp)
    · cases h2
  · cases h1
theorem endV_step {body : List InsV} {f : Nat} {s t : List Int} {i n : Nat} {q : InsV} {s' t' : List Int} {i' : Nat} (hq : body[i]? = some q) (h9 : q.op ≠ 9) (h : DoesV body.length q s t i s' t' i') (hf : body.length ≤ i + f) : ∃ f', body.length ≤ i' + f' ∧ endV body f s t i n = endV body f' s' t' i' (n + 1) := by
  have hl := (List.getElem?_eq_some_iff.1 hq).1
  match f, hf with
  | 0, hf => omega
  | f + 1, hf =>
    refine ⟨f, by have := h.on; omega, ?_⟩
    rw [endV, hq]
    dsimp only
    rw [if_neg h9, h.is]
theorem endV_end {body : List InsV} {f : Nat} {s t : List Int} {i n : Nat} {q : InsV} (hq : body[i]? = some q) (h9 : q.op = 9) (hf : body.length ≤ i + f) : endV body f s t i n = (s, n + 1) := by
  have hl := (List.getElem?_eq_some_iff.1 hq).1
  match f, hf with
  | 0, hf => omega
  | f + 1, hf =>
    rw [endV, hq]
    dsimp only
    rw [if_pos h9]

/-- The slots when a tick begins. -/
def slots0 (c : CodeV) (cs ins : List Int) : List Int := ins ++ (List.replicate c.outs.toNat 0 ++ (cs ++ List.replicate (c.kinds.length - (ins.length + c.outs.toNat + cs.length)) 0))
/-- Are a tick's values such as are taken? -/
def insOk (c : CodeV) (ins : List Int) : Bool := (List.range ins.length).all fun j => isk (c.kinds.getD j 0) (ins.getD j 0)
structure TickV where
  err : Int
  outs : List Int
  n : Nat
  cells : List Int
def tickV (c : CodeV) (cs ins : List Int) : TickV :=
  if (ins.length : Int) ≠ c.ins then ⟨23, [], 0, cs⟩
  else if insOk c ins = false then ⟨1, [], 0, cs⟩
  else
    let r := endV c.body c.body.length (slots0 c cs ins) [] 0 0
    ⟨0, (r.1.drop ins.length).take c.outs.toNat, r.2, (r.1.drop (ins.length + c.outs.toNat)).take c.cells.toNat⟩
/-- The cells of code are values of their kinds. -/
def CellsOk (c : CodeV) (cs : List Int) : Prop := ValsK ((c.kinds.drop (c.ins.toNat + c.outs.toNat)).take c.cells.toNat) cs
theorem CellsOk.len {c : CodeV} {cs : List Int} (h : CellsOk c cs) (F : Formed c) : cs.length = c.cells.toNat := by
  have := h.1
  have h1 := F.sum
  have h2 := F.ins
  have h3 := F.outs
  have h4 := F.cells
  rw [List.length_take, List.length_drop] at this
  omega
theorem vals_zero {ks : List Int} (h : ∀ (j : Nat) (k : Int), ks[j]? = some k → width k ≠ 0) : ValsK ks (List.replicate ks.length 0) := by
  refine ⟨by simp, fun j k v hk hv => ?_⟩
  rw [List.getElem?_replicate] at hv
  split at hv
  · obtain rfl := Option.some.inj hv
    refine ⟨isk_zero ?_, by unfold I64; decide⟩
    have := h j k hk
    have := width_wid k
    omega
  · cases hv
theorem insOk_vals {c : CodeV} {ins : List Int} (hl : ins.length ≤ c.kinds.length) (hI : ∀ x ∈ ins, I64 x) (h : insOk c ins = true) : ValsK (c.kinds.take ins.length) ins := by
  refine ⟨by rw [List.length_take]; omega, fun j k v hk hv => ?_⟩
  have hj := (List.getElem?_eq_some_iff.1 hv).1
  unfold insOk at h
  simp only [List.all_eq_true, List.mem_range] at h
  have := h j hj
  rw [List.getElem?_take, if_pos hj] at hk
  simp only [List.getD, hk, hv, Option.getD_some] at this
  exact ⟨this, hI v (List.mem_of_getElem? hv)⟩
theorem slots0_vals {c : CodeV} {cs ins : List Int} (F : Formed c) (hc : CellsOk c cs) (hl : (ins.length : Int) = c.ins) (hI : ∀ x ∈ ins, I64 x) (h : insOk c ins = true) : ValsK c.kinds (slots0 c cs ins) := by
  have h1 := F.sum
  have h2 := F.ins
  have h3 := F.outs
  have h4 := F.cells
  have hcl := hc.len F
  have hz : ∀ n m, ValsK ((c.kinds.drop n).take m) (List.replicate ((c.kinds.drop n).take m).length 0) := fun n m => vals_zero fun j k hk => by
    rw [List.getElem?_take] at hk
    split at hk
    · rw [List.getElem?_drop] at hk; exact F.kinds _ k hk
    · cases hk
  have e : c.kinds = c.kinds.take ins.length ++ ((c.kinds.drop ins.length).take c.outs.toNat ++ (((c.kinds.drop (ins.length + c.outs.toNat)).take cs.length) ++ (c.kinds.drop (ins.length + c.outs.toNat + cs.length)).take (c.kinds.length - (ins.length + c.outs.toNat + cs.length)))) := by
    rw [List.take_of_length_le (i := c.kinds.length - (ins.length + c.outs.toNat + cs.length)) (by rw [List.length_drop]; omega), ← List.drop_drop (i := cs.length), List.take_append_drop, ← List.drop_drop (i := c.outs.toNat), List.take_append_drop, List.take_append_drop]
  unfold slots0
  conv => arg 1; rw [e]
  refine (insOk_vals (by omega) hI h).append (ValsK.append ?_ (ValsK.append ?_ ?_))
  · have := hz ins.length c.outs.toNat
    rwa [show ((c.kinds.drop ins.length).take c.outs.toNat).length = c.outs.toNat by rw [List.length_take, List.length_drop]; omega] at this
  · unfold CellsOk at hc
    rw [show c.ins.toNat = ins.length by omega, ← hcl] at hc
    exact hc
  · have := hz (ins.length + c.outs.toNat + cs.length) (c.kinds.length - (ins.length + c.outs.toNat + cs.length))
    rwa [show ((c.kinds.drop (ins.length + c.outs.toNat + cs.length)).take (c.kinds.length - (ins.length + c.outs.toNat + cs.length))).length = c.kinds.length - (ins.length + c.outs.toNat + cs.length) by rw [List.length_take, List.length_drop]; omega] at this
theorem init_ok {c : CodeV} (F : Formed c) (hI : ∀ x ∈ c.init, I64 x) : CellsOk c c.init := by
  have h0 := F.init
  have h1 := F.sum
  have h2 := F.ins
  have h3 := F.outs
  refine ⟨by rw [List.length_take, List.length_drop]; omega, fun j k v hk hv => ?_⟩
  rw [List.getElem?_take] at hk
  split at hk
  · rw [List.getElem?_drop] at hk
    exact ⟨F.vals j k v hk hv, hI v (List.mem_of_getElem? hv)⟩
  · cases hk
end Go.Proofs.Ytipfcfaigbeakaa

namespace Go.Proofs.Ytipfcfaigbeakaa
open Go.RowKit
set_option linter.unusedSimpArgs false
set_option linter.unusedVariables false
set_option maxRecDepth 100000

/-- A machine in memory: its block, and rows of its own, all apart. -/
structure MS (g B : Nat) (c : CodeV) (lv kv iv bv sv tv : Value) (pc : Int) (ends : Bool) (cs s t : List Int) (w : World) : Prop where
  box : BoxV g (machL c lv kv iv bv sv tv pc ends) w
  cells : w.ownsRow B 3 1 lv cs.length (i64s cs)
  kinds : w.ownsRow B 3 1 kv c.kinds.length (i64s c.kinds)
  init : w.ownsRow B 3 1 iv c.init.length (i64s c.init)
  body : w.ownsRow B 33 3 bv c.body.length (insCells c.body)
  slots : w.ownsRow B 3 1 sv s.length (i64s s)
  stack : w.ownsRow B 3 1 tv t.length (i64s t)
  size : B ≤ w.heap.size
  ng : ∀ v ∈ [lv, kv, iv, bv, sv, tv], v.ownBlock ≠ some g
  nl : ∀ v ∈ [kv, iv, bv, sv, tv], ∀ b, lv.ownBlock = some b → v.ownBlock ≠ some b
  ns : ∀ v ∈ [kv, iv, bv, tv], ∀ b, sv.ownBlock = some b → v.ownBlock ≠ some b
  nt : ∀ v ∈ [kv, iv, bv], ∀ b, tv.ownBlock = some b → v.ownBlock ≠ some b
section
variable {g B : Nat} {c : CodeV} {lv kv iv bv sv tv : Value} {pc : Int} {ends : Bool} {cs s t : List Int} {w w' : World}
theorem MS.ext (h : MS g B c lv kv iv bv sv tv pc ends cs s t w) (hx : Ext w w') : MS g B c lv kv iv bv sv tv pc ends cs s t w' :=
  ⟨h.box.ext hx, ownsRow_ext h.cells hx, ownsRow_ext h.kinds hx, ownsRow_ext h.init hx, ownsRow_ext h.body hx, ownsRow_ext h.slots hx, ownsRow_ext h.stack hx, Nat.le_trans h.size hx.size, h.ng, h.nl, h.ns, h.nt⟩
theorem MS.stk (h : MS g B c lv kv iv bv sv tv pc ends cs s t w) : StkM g B tv t w := ⟨h.stack, h.ng tv (by simp), h.size⟩
/-- Another block's writes leave the machine as it is. -/
theorem MS.kb (h : MS g B c lv kv iv bv sv tv pc ends cs s t w) {S : List Nat} (hk : Kb S w w') (hg : g ∉ S) (hS : ∀ v ∈ [lv, kv, iv, bv, sv, tv], ∀ b ∈ S, v.ownBlock ≠ some b) : MS g B c lv kv iv bv sv tv pc ends cs s t w' :=
  ⟨h.box.kb hk hg, hk.row h.cells (hS lv (by simp)), hk.row h.kinds (hS kv (by simp)), hk.row h.init (hS iv (by simp)), hk.row h.body (hS bv (by simp)), hk.row h.slots (hS sv (by simp)), hk.row h.stack (hS tv (by simp)), Nat.le_trans h.size hk.size, h.ng, h.nl, h.ns, h.nt⟩
/-- What is pushed or taken off turns the machine's block and its stack alone. -/
theorem MS.stacked (h : MS g B c lv kv iv bv sv tv pc ends cs s t w) {tv' : Value} {t' : List Int} {pc' : Int} {ends' : Bool} (hb : BoxV g (machL c lv kv iv bv sv tv' pc' ends') w') (hs : StkM g B tv' t' w')
    (hn : tv'.ownBlock = tv.ownBlock ∨ ∃ b, w.heap.size ≤ b ∧ tv'.ownBlock = some b) (hk : Kb (g :: tv.ownBlock.toList) w w') : MS g B c lv kv iv bv sv tv' pc' ends' cs s t' w' := by
  have hS : ∀ v ∈ [lv, kv, iv, bv, sv], ∀ b ∈ g :: tv.ownBlock.toList, v.ownBlock ≠ some b := by
    intro v hv b hb
    rcases List.mem_cons.1 hb with e | e
    · rw [e]; exact h.ng v (by simp only [List.mem_cons, List.not_mem_nil, or_false] at hv ⊢; rcases hv with h | h | h | h | h <;> simp [h])
    · have e' := Option.mem_toList.1 e
      have e2 : tv.ownBlock = some b := e'
      simp only [List.mem_cons, List.not_mem_nil, or_false] at hv
      rcases hv with rfl | rfl | rfl | rfl | rfl
      · exact fun e3 => h.nl tv (by simp) b e3 e2
      · exact h.nt _ (by simp) b e2
      · exact h.nt _ (by simp) b e2
      · exact h.nt _ (by simp) b e2
      · exact fun e3 => h.ns tv (by simp) b e3 e2
  have hlt : ∀ v ∈ [lv, kv, iv, bv, sv], ∀ b, v.ownBlock = some b → b < w.heap.size := by
    intro v hv b hvb
    simp only [List.mem_cons, List.not_mem_nil, or_false] at hv
    rcases hv with rfl | rfl | rfl | rfl | rfl
    · exact (h.cells.lt b hvb).2
    · exact (h.kinds.lt b hvb).2
    · exact (h.init.lt b hvb).2
    · exact (h.body.lt b hvb).2
    · exact (h.slots.lt b hvb).2
  have hap : ∀ v ∈ [lv, kv, iv, bv, sv], ∀ b, v.ownBlock = some b → tv'.ownBlock ≠ some b := by
    intro v hv b hvb htb
    rcases hn with e | ⟨b', hb', e⟩
    · exact hS v hv b (List.mem_cons_of_mem _ (Option.mem_toList.2 (e.symm.trans htb))) hvb
    · rw [e] at htb
      have := hlt v hv b hvb
      have := Option.some.inj htb
      omega
  refine ⟨hb, hk.row h.cells fun b hb => hS lv (by simp) b hb, hk.row h.kinds fun b hb => hS kv (by simp) b hb, hk.row h.init fun b hb => hS iv (by simp) b hb, hk.row h.body fun b hb => hS bv (by simp) b hb, hk.row h.slots fun b hb => hS sv (by simp) b hb, hs.own, hs.size, ?_, ?_, ?_, ?_⟩
  · intro v hv
    simp only [List.mem_cons, List.not_mem_nil, or_false] at hv
    rcases hv with rfl | rfl | rfl | rfl | rfl | rfl
    · exact h.ng _ (by simp)
    · exact h.ng _ (by simp)
    · exact h.ng _ (by simp)
    · exact h.ng _ (by simp)
    · exact h.ng _ (by simp)
    · exact hs.ne
  · intro v hv b hlb
    simp only [List.mem_cons, List.not_mem_nil, or_false] at hv
    rcases hv with rfl | rfl | rfl | rfl | rfl
    · exact h.nl _ (by simp) b hlb
    · exact h.nl _ (by simp) b hlb
    · exact h.nl _ (by simp) b hlb
    · exact h.nl _ (by simp) b hlb
    · exact hap lv (by simp) b hlb
  · intro v hv b hsb
    simp only [List.mem_cons, List.not_mem_nil, or_false] at hv
    rcases hv with rfl | rfl | rfl | rfl
    · exact h.ns _ (by simp) b hsb
    · exact h.ns _ (by simp) b hsb
    · exact h.ns _ (by simp) b hsb
    · exact hap sv (by simp) b hsb
  · intro v hv b htb hvb
    refine hap v ?_ b hvb htb
    simp only [List.mem_cons, List.not_mem_nil, or_false] at hv ⊢
    rcases hv with h | h | h <;> simp [h]
end

def doCells : Array Value := #[.nilFunc, .func (.func 80) #[] #[], .func (.func 81) #[] #[], .func (.func 82) #[] #[], .func (.func 83) #[] #[], .func (.func 84) #[] #[], .func (.func 85) #[] #[], .func (.func 86) #[] #[], .func (.func 87) #[] #[], .func (.func 88) #[] #[]]
theorem does_any (w : World) :
    Calls Try.prog 59 #[] w fun e w' => e = .returned (.agg doCells) ∧ Ext w w' := by
  go_enter Try.func59, Try.ntmps59
  go_wp2
  exact bodyPost_ret (v := .agg doCells) (results_cell_row rfl _ _ _ _ _ _ _ rfl (heap_alloc_last _ _) Try.underlying108 rfl (by kernel_rfl)) rfl ⟨rfl, (Ext.refl _).alloc _⟩
def doFn (op : Int) : FuncId := if op = 1 then 80 else if op = 2 then 81 else if op = 3 then 82 else if op = 4 then 83 else if op = 5 then 84 else if op = 6 then 85 else if op = 7 then 86 else if op = 8 then 87 else 88
theorem doFn_at {op : Int} (h : 1 ≤ op ∧ op ≤ 9) : doCells[op.toNat]? = some (.func (.func (doFn op)) #[] #[]) := by
  rcases (show op = 1 ∨ op = 2 ∨ op = 3 ∨ op = 4 ∨ op = 5 ∨ op = 6 ∨ op = 7 ∨ op = 8 ∨ op = 9 by omega) with rfl | rfl | rfl | rfl | rfl | rfl | rfl | rfl | rfl <;> rfl
theorem doFn_enter {op : Int} (h : 1 ≤ op ∧ op ≤ 9) (args : Array Value) (w : World) : Sem.run Try.prog (callFunc (doFn op) args) w = .ok (.enter (doFn op) args) w := by
  rcases (show op = 1 ∨ op = 2 ∨ op = 3 ∨ op = 4 ∨ op = 5 ∨ op = 6 ∨ op = 7 ∨ op = 8 ∨ op = 9 by omega) with rfl | rfl | rfl | rfl | rfl | rfl | rfl | rfl | rfl <;> kernel_rfl
/-- What an instruction leaves. -/
def DidM (g B : Nat) (c : CodeV) (lv kv iv bv sv tv : Value) (pc : Int) (ends : Bool) (cs s t : List Int) (w : World) (e : Ending) (w' : World) : Prop :=
  ∃ tv', e = .returned (.tuple #[]) ∧ MS g B c lv kv iv bv sv tv' pc ends cs s t w' ∧ (tv'.ownBlock = tv.ownBlock ∨ ∃ b, w.heap.size ≤ b ∧ tv'.ownBlock = some b) ∧ Kb (g :: (sv.ownBlock.toList ++ tv.ownBlock.toList)) w w'
theorem kb_low {g : Nat} {a b : List Nat} {w w' : World} (h : Kb (g :: b) w w') : Kb (g :: (a ++ b)) w w' := h.mono fun k hk => by
  rcases List.mem_cons.1 hk with e | e
  · rw [e]; simp
  · exact List.mem_cons_of_mem _ (List.mem_append_right _ e)
theorem kb_one {g : Nat} {a : List Nat} {w w' : World} (h : Kb [g] w w') : Kb (g :: a) w w' := h.mono fun k hk => by rw [List.mem_singleton.1 hk]; simp
theorem do_any {g B : Nat} {c : CodeV} {lv kv iv bv sv tv : Value} {cs s t s' t' : List Int} {i i' : Nat} {w : World} {q : InsV} (h : MS g B c lv kv iv bv sv tv ((i + 1 : Nat) : Int) false cs s t w) (hD : DoesV c.body.length q s t i s' t' i') (ht : t.length ≤ 64) (hN : c.body.length ≤ 60000) :
    Calls Try.prog (doFn q.op) #[.pointer (some ⟨g, 0, none⟩), insA q] w (DidM g B c lv kv iv bv sv tv (i' : Int) false cs s' t' w) := by
  have hsm : ∀ n : Nat, n < 60000 → wrap64 (n : Int) = (n : Int) := fun n hn => nat64 (m := n) (cap := 60000) (by omega) (by unfold maxLen; omega)
  have hgs : ∀ {w' : World}, Kb (g :: tv.ownBlock.toList) w w' → Kb (g :: (sv.ownBlock.toList ++ tv.ownBlock.toList)) w w' := fun hk => kb_low hk
  unfold doFn
  cases hD with
  | push e =>
    rw [if_pos e]
    refine (doPush_any g B c lv kv iv bv sv tv _ q.op q.n q.k false t w h.box h.stk (by omega)).mono ?_
    rintro e1 w1 ⟨tv', rfl, h1, h2, h3, h4⟩
    exact ⟨tv', rfl, h.stacked h1 h2 h3 h4, h3, hgs h4⟩
  | load j x e hn hx =>
    rw [if_neg (by omega), if_pos e]
    have hj := (List.getElem?_eq_some_iff.1 hx).1
    obtain ⟨b, cap, rfl, -, -, -⟩ := ownsRow_some h.slots (by omega)
    have hc := (own_cell1 h.slots j (.int .i64 x) (by simp [hx])).1
    refine (show Calls _ _ #[_, insA q] _ _ from by
      have := doLoad_any g B b cap s c lv kv iv bv tv ((i + 1 : Nat) : Int) q.op q.k j x false t w h.box h.stk (by omega) hj hc
      rw [← hn] at this; exact this).mono ?_
    rintro e1 w1 ⟨tv', rfl, h1, h2, h3, h4⟩
    exact ⟨tv', rfl, h.stacked h1 h2 h3 h4, h3, kb_low h4⟩
  | save j r x e hn hj hr =>
    rw [if_neg (by omega), if_neg (by omega), if_pos e]
    subst hr
    obtain ⟨b, cap, rfl, -, -, -⟩ := ownsRow_some h.slots (by omega)
    have hbg : b ≠ g := fun e1 => h.ng (.slice (some ⟨b, 0, none⟩) s.length cap) (by simp) (by simp [Value.ownBlock, e1])
    have hbt : tv.ownBlock ≠ some b := h.ns tv (by simp) b rfl
    have hb1 : ∀ v ∈ [lv, kv, iv, bv], ∀ k ∈ [g, b], v.ownBlock ≠ some k := by
      intro v hv k hk
      simp only [List.mem_cons, List.not_mem_nil, or_false] at hk
      rcases hk with e1 | e1
      · rw [e1]; exact h.ng v (by simp only [List.mem_cons, List.not_mem_nil, or_false] at hv ⊢; rcases hv with h | h | h | h <;> simp [h])
      · rw [e1]
        simp only [List.mem_cons, List.not_mem_nil, or_false] at hv
        rcases hv with rfl | rfl | rfl | rfl
        · exact fun e2 => h.nl (.slice (some ⟨b, 0, none⟩) s.length cap) (by simp) b e2 rfl
        · exact h.ns _ (by simp) b rfl
        · exact h.ns _ (by simp) b rfl
        · exact h.ns _ (by simp) b rfl
    refine (show Calls _ _ #[_, insA q] _ _ from by
      have := doSave_any g B B b cap s c lv kv iv bv tv ((i + 1 : Nat) : Int) q.op q.k x j false t' w h.box h.stk (by simp at ht; omega) hj h.slots hbg hbt
      rw [← hn] at this; exact this).mono ?_
    rintro e1 w1 ⟨tv', rfl, h1, h2, h3, h4, h5⟩
    refine ⟨tv', rfl, ⟨by simpa using h1, h5.row h.cells (hb1 lv (by simp)), h5.row h.kinds (hb1 kv (by simp)), h5.row h.init (hb1 iv (by simp)), h5.row h.body (hb1 bv (by simp)), by simpa using h4, h2.own, h2.size, ?_, ?_, ?_, ?_⟩, .inl h3, h5.mono fun k hk => ?_⟩
    · intro v hv
      simp only [List.mem_cons, List.not_mem_nil, or_false] at hv
      rcases hv with rfl | rfl | rfl | rfl | rfl | rfl
      · exact h.ng _ (by simp)
      · exact h.ng _ (by simp)
      · exact h.ng _ (by simp)
      · exact h.ng _ (by simp)
      · exact h.ng (.slice (some ⟨b, 0, none⟩) s.length cap) (by simp)
      · exact h2.ne
    · intro v hv b' hlb
      simp only [List.mem_cons, List.not_mem_nil, or_false] at hv
      rcases hv with rfl | rfl | rfl | rfl | rfl
      · exact h.nl _ (by simp) b' hlb
      · exact h.nl _ (by simp) b' hlb
      · exact h.nl _ (by simp) b' hlb
      · exact h.nl (.slice (some ⟨b, 0, none⟩) s.length cap) (by simp) b' hlb
      · rw [h3]; exact h.nl tv (by simp) b' hlb
    · intro v hv b' hsb
      simp only [List.mem_cons, List.not_mem_nil, or_false] at hv
      rcases hv with rfl | rfl | rfl | rfl
      · exact h.ns _ (by simp) b' hsb
      · exact h.ns _ (by simp) b' hsb
      · exact h.ns _ (by simp) b' hsb
      · rw [h3]; exact h.ns tv (by simp) b' hsb
    · intro v hv b' htb
      rw [h3] at htb
      exact h.nt v hv b' htb
    · simp only [List.mem_cons, List.not_mem_nil, or_false] at hk
      rcases hk with e1 | e1 <;> simp [Value.ownBlock, e1]
  | un r x e hr hx =>
    subst hr
    rw [if_neg (by omega), if_neg (by omega), if_neg (by omega), if_pos e]
    refine (doUn_any g B c lv kv iv bv sv tv _ q.op q.n q.k x false r w h.box h.stk (by simp at ht; omega) (fun w' => bvUn_any _ _ _ w')).mono ?_
    rintro e1 w1 ⟨tv', rfl, h1, h2, h3, h4⟩
    exact ⟨tv', rfl, h.stacked h1 h2 h3 h4, h3, hgs h4⟩
  | bin r x y e hr hx hy =>
    subst hr
    rw [if_neg (by omega), if_neg (by omega), if_neg (by omega), if_neg (by omega), if_pos e]
    refine (doBin_any g B c lv kv iv bv sv tv _ q.op q.n q.k x y (binv q.n q.k x y).1 false r w h.box h.stk (by simp at ht; omega) (fun w' => (bvBin_any _ _ _ _ hy w').mono fun e1 w1 ⟨h1, h2⟩ => ⟨⟨_, _, h1⟩, h2⟩)).mono ?_
    rintro e1 w1 ⟨tv', rfl, h1, h2, h3, h4⟩
    exact ⟨tv', rfl, h.stacked h1 h2 h3 h4, h3, hgs h4⟩
  | cast r x e hr hx =>
    subst hr
    rw [if_neg (by omega), if_neg (by omega), if_neg (by omega), if_neg (by omega), if_neg (by omega), if_pos e]
    refine (doCast_any g B c lv kv iv bv sv tv _ q.op q.n q.k x false r w h.box h.stk (by simp at ht; omega) (fun w' => bvCast_any _ _ _ w')).mono ?_
    rintro e1 w1 ⟨tv', rfl, h1, h2, h3, h4⟩
    exact ⟨tv', rfl, h.stacked h1 h2 h3 h4, h3, hgs h4⟩
  | jump j e hn hj =>
    rw [if_neg (by omega), if_neg (by omega), if_neg (by omega), if_neg (by omega), if_neg (by omega), if_neg (by omega), if_pos e]
    have hp : ((i + 1 : Nat) : Int) + q.n = ((i + 1 + j : Nat) : Int) := by rw [hn]; omega
    refine (doJump_any g c lv kv iv bv sv tv _ q.op q.n q.k false w h.box (by rw [hp]; exact hsm _ (by omega))).mono ?_
    rintro e1 w1 ⟨rfl, h1, h2⟩
    rw [hp] at h1
    have hk := kb_one (a := tv.ownBlock.toList) h2
    exact ⟨tv, rfl, h.stacked h1 ⟨h2.row h.stack fun b hb => by rw [List.mem_singleton.1 hb]; exact h.ng tv (by simp), h.ng tv (by simp), Nat.le_trans h.size h2.size⟩ (.inl rfl) hk, .inl rfl, hgs hk⟩
  | branch j r x e hn hj hr =>
    subst hr
    rw [if_neg (by omega), if_neg (by omega), if_neg (by omega), if_neg (by omega), if_neg (by omega), if_neg (by omega), if_neg (by omega), if_pos e]
    have hp : ((i + 1 : Nat) : Int) + q.n = ((i + 1 + j : Nat) : Int) := by rw [hn]; omega
    refine (doFalse_any g B c lv kv iv bv sv tv _ q.op q.n q.k x false t' w h.box h.stk (by simp at ht; omega) (by rw [hp]; exact hsm _ (by omega))).mono ?_
    rintro e1 w1 ⟨tv', rfl, h1, h2, h3, h4⟩
    have hk := kb_one (a := tv.ownBlock.toList) h4
    refine ⟨tv', rfl, h.stacked ?_ h2 (.inl h3) hk, .inl h3, hgs hk⟩
    rw [hp] at h1
    have e2 : ((if x = 0 then i + 1 + j else i + 1 : Nat) : Int) = if x = 0 then ((i + 1 + j : Nat) : Int) else ((i + 1 : Nat) : Int) := by split <;> rfl
    rw [e2]; exact h1
theorem doEnd_all {g B : Nat} {c : CodeV} {lv kv iv bv sv tv : Value} {cs s t : List Int} {pc : Int} {w : World} {q : InsV} (h : MS g B c lv kv iv bv sv tv pc false cs s t w) (h9 : q.op = 9) :
    Calls Try.prog (doFn q.op) #[.pointer (some ⟨g, 0, none⟩), insA q] w (DidM g B c lv kv iv bv sv tv pc true cs s t w) := by
  unfold doFn
  rw [if_neg (by omega), if_neg (by omega), if_neg (by omega), if_neg (by omega), if_neg (by omega), if_neg (by omega), if_neg (by omega), if_neg (by omega)]
  refine (doEnd_any g c lv kv iv bv sv tv pc q.op q.n q.k false w h.box).mono ?_
  rintro e1 w1 ⟨rfl, h1, h2⟩
  have hk := kb_one (a := tv.ownBlock.toList) h2
  exact ⟨tv, rfl, h.stacked h1 ⟨h2.row h.stack fun b hb => by rw [List.mem_singleton.1 hb]; exact h.ng tv (by simp), h.ng tv (by simp), Nat.le_trans h.size h2.size⟩ (.inl rfl) hk, .inl rfl, kb_low hk⟩
end Go.Proofs.Ytipfcfaigbeakaa

namespace Go.Proofs.Ytipfcfaigbeakaa
open Go.RowKit
set_option linter.unusedSimpArgs false
set_option linter.unusedVariables false
set_option maxRecDepth 100000

theorem SlC.kb {S : List Nat} {w w' : World} {v : Value} {n : Nat} {cs : List Value} (h : SlC w v n cs) (hk : Kb S w w') (hS : ∀ b ∈ S, v.ownBlock ≠ some b) : SlC w' v n cs := by
  obtain ⟨a, cap, rfl, h1, h2, hc⟩ := h
  refine ⟨a, cap, rfl, h1, h2, fun j u hu => ?_⟩
  obtain ⟨b, o, rfl, hcell⟩ := hc j u hu
  exact ⟨b, o, rfl, hk.cell (fun hb => hS b hb rfl) hcell⟩
theorem SlC.kb0 {S : List Nat} {w w' : World} {v : Value} {n : Nat} {cs : List Value} (h : SlC w v n cs) (hk : Kb S w w') (hS : cs ≠ [] → ∀ b ∈ S, v.ownBlock ≠ some b) : SlC w' v n cs := by
  obtain ⟨a, cap, rfl, h1, h2, hc⟩ := h
  refine ⟨a, cap, rfl, h1, h2, fun j u hu => ?_⟩
  obtain ⟨b, o, rfl, hcell⟩ := hc j u hu
  exact ⟨b, o, rfl, hk.cell (fun hb => hS (by intro e; rw [e] at hu; simp at hu) b hb rfl) hcell⟩
theorem SlC.lt {w : World} {v : Value} {n : Nat} {cs : List Value} (h : SlC w v n cs) (hne : cs ≠ []) : ∀ b, v.ownBlock = some b → b < w.heap.size := by
  obtain ⟨a, cap, rfl, h1, h2, hc⟩ := h
  intro b hb
  obtain ⟨x, hx⟩ : ∃ x, cs[0]? = some x := ⟨_, List.getElem?_eq_getElem (List.length_pos_iff.2 hne)⟩
  obtain ⟨b', o, rfl, hcell⟩ := hc 0 x hx
  simp [Value.ownBlock] at hb
  subst hb
  exact World.block_lt_of_cell? w _ hcell
theorem i64s_ne {l : List Int} (h : i64s l ≠ []) : l ≠ [] := fun e => h (by rw [e]; rfl)
theorem insCells_ne {l : List InsV} (h : insCells l ≠ []) : l ≠ [] := fun e => h (by rw [e]; rfl)
theorem insOk_at {c : CodeV} {ins : List Int} (h : insOk c ins = true) {j : Nat} {k v : Int} (hk : c.kinds[j]? = some k) (hv : ins[j]? = some v) : isk k v = true := by
  unfold insOk at h
  simp only [List.all_eq_true, List.mem_range] at h
  have := h j (List.getElem?_eq_some_iff.1 hv).1
  simpa [List.getD, hk, hv] using this
/-- The first so many values are such as are taken. -/
def okTo (c : CodeV) (ins : List Int) (j : Nat) : Bool := (List.range j).all fun i => isk (c.kinds.getD i 0) (ins.getD i 0)
theorem okTo_succ (c : CodeV) (ins : List Int) (j : Nat) : okTo c ins (j + 1) = (okTo c ins j && isk (c.kinds.getD j 0) (ins.getD j 0)) := by simp [okTo, List.range_succ]
set_option maxHeartbeats 2000000 in
theorem tick_count {g B : Nat} {c : CodeV} {lv kv iv bv sv tv insv : Value} {pc : Int} {ends : Bool} {cs s t ins : List Int} {w : World} (h : MS g B c lv kv iv bv sv tv pc ends cs s t w) (hins : SlC w insv ins.length (i64s ins)) (hl : (ins.length : Int) ≠ c.ins) :
    Calls Try.prog 30 #[.pointer (some ⟨g, 0, none⟩), insv] w fun e w' => e = .returned (.tuple #[.slice none 0 0, .int .i64 0, .int .i64 23]) ∧ w = w' := by
  obtain ⟨a, cap, rfl, h1, h2, -⟩ := hins
  have hln := nat64 h1 h2
  have q := h.box.cells 2 _ rfl
  have e1 : ((ins.length : Int) != c.ins) = true := by simpa using hl
  have e2 : ((ins.length : Int) == c.ins) = false := by simpa using hl
  clear h hl h1 h2
  go_enter Try.func30, Try.ntmps30
  go_wp2
  go_ret3
  exact ⟨rfl, rfl⟩
set_option maxHeartbeats 2000000 in
theorem tick_arg {g B : Nat} {c : CodeV} {lv kv iv bv sv tv insv : Value} {pc : Int} {ends : Bool} {cs s t ins : List Int} {w : World} (h : MS g B c lv kv iv bv sv tv pc ends cs s t w) (hins : SlC w insv ins.length (i64s ins)) (hl : (ins.length : Int) = c.ins) (hk : ins.length ≤ c.kinds.length) (hkl : c.kinds.length ≤ 8000) (hok : insOk c ins = false) :
    Calls Try.prog 30 #[.pointer (some ⟨g, 0, none⟩), insv] w fun e w' => e = .returned (.tuple #[.slice none 0 0, .int .i64 0, .int .i64 1]) ∧ w = w' := by
  obtain ⟨a, cap, rfl, h1, h2, hc⟩ := hins
  obtain ⟨ka, kcap, rfl, hk1, hk2, hkc⟩ := SlC.of_owns h.kinds
  have HC := Lib.hid hc
  have HK := Lib.hid hkc
  have q := h.box.cells 2 _ rfl
  have q1 := h.box.cells 1 _ rfl
  have HO : Hid (okTo c ins ins.length = false) := Lib.hid hok
  rw [← hl] at q
  obtain ⟨n, hn⟩ : ∃ n, n = ins.length := ⟨_, rfl⟩
  rw [← hn] at q hk HO ⊢
  have HN := Lib.hid hn
  obtain ⟨K, hK⟩ : ∃ K, K = c.kinds.length := ⟨_, rfl⟩
  rw [← hK] at hk q1 hkl
  have HKN := Lib.hid hK
  have hn8 : n ≤ 8000 := by omega
  clear h hl h1 h2 hc hok hn hk1 hk2 hkc hK
  go_enter Try.func30, Try.ntmps30
  go_wp2
  go_loop [26] (fun x => ∃ k : Nat, k ≤ n ∧ x = .int .i64 k ∧ Hid (okTo c ins k = true)) (fun x => n - (intOf x).toNat)
  case atStart => exact ⟨0, Nat.zero_le _, rfl, Lib.hid rfl⟩
  case round =>
    obtain ⟨k, hkn, rfl, HT⟩ := hrel
    by_cases hlt : k < n
    · have hki : k < ins.length := by rw [← HN.out]; exact hlt
      have hkk : k < c.kinds.length := by rw [← HKN.out]; omega
      have hkK : (k : Int) < (K : Int) := by omega
      obtain ⟨x, hx⟩ : ∃ x, ins[k]? = some x := ⟨_, List.getElem?_eq_getElem hki⟩
      obtain ⟨y, hy⟩ : ∃ y, c.kinds[k]? = some y := ⟨_, List.getElem?_eq_getElem hkk⟩
      obtain ⟨b, o, rfl, c1⟩ := HC.out k (.int .i64 x) (by simp [hx])
      obtain ⟨b2, o2, rfl, c2⟩ := HK.out k (.int .i64 y) (by simp [hy])
      have HS : Hid (okTo c ins (k + 1) = isk y x) := Lib.hid (by rw [okTo_succ, HT.out]; simp [List.getD, hx, hy])
      clear hx hy
      cases hi : isk y x with
      | false =>
        go_wp2_with (go_at_call 58; refine (bvIs_any _ _ _).mono ?_; rintro e w1 ⟨rfl, rfl⟩)
        go_ret3
        exact ⟨rfl, rfl⟩
      | true =>
        have HS' : Hid (okTo c ins (k + 1) = true) := Lib.hid (HS.out.trans hi)
        go_wp2_with (go_at_call 58; refine (bvIs_any _ _ _).mono ?_; rintro e w1 ⟨rfl, rfl⟩)
        go_round
        case rel => exact ⟨k + 1, by omega, by go_num, HS'⟩
        case measure => simp [intOf]; omega
    · have : k = n := by omega
      subst this
      exact absurd (HT.out.symm.trans HO.out) (by decide)
end Go.Proofs.Ytipfcfaigbeakaa
