/-
  The plain laws of values: quotients and rests, shifts.
  No condition but that numbers fit 64 bits.
-/
import Derived.Test.YtkfljmdgegjgjaaBvLaw3
namespace Go.Proofs.Ytkfljmdgegjgjaa
open Go.RowKit

theorem binv_num {k : Int} (h : Num k) (n : Nat) (hn : opOf n = 2 ∨ opOf n = 3) {a b : Int} (ha : isk k a = true) (hb : isk k b = true) : binv n k a b = ((binr n k a b).1, (binr n k a b).2, true) :=
  binv_yes (h.ok n hn ha hb)
theorem wkr_zero (k : Int) : wkr k 0 = 0 := by
  rcases kinds k with rfl | rfl | rfl | rfl | rfl | rfl | rfl | rfl | rfl | hk <;> first | decide +kernel | exact wkr_none _ hk
theorem isk_of_range {k a : Int} (hk : Num k) (h : (k = 2 → -128 ≤ a ∧ a ≤ 127) ∧ (k = 3 → -32768 ≤ a ∧ a ≤ 32767) ∧ (k = 4 → -2147483648 ≤ a ∧ a ≤ 2147483647) ∧ (k = 6 → 0 ≤ a ∧ a ≤ 255) ∧ (k = 7 → 0 ≤ a ∧ a ≤ 65535) ∧ (k = 8 → 0 ≤ a ∧ a ≤ 4294967295)) : wkr k a = a := by
  unfold Num at hk
  rcases (show k = 2 ∨ k = 3 ∨ k = 4 ∨ k = 5 ∨ k = 6 ∨ k = 7 ∨ k = 8 ∨ k = 9 by omega) with rfl | rfl | rfl | rfl | rfl | rfl | rfl | rfl
  · rw [wkr_2]; have := h.1 rfl; omega
  · rw [wkr_3]; have := h.2.1 rfl; omega
  · rw [wkr_4]; have := h.2.2.1 rfl; omega
  · rw [wkr_5]
  · rw [wkr_6]; have := h.2.2.2.1 rfl; omega
  · rw [wkr_7]; have := h.2.2.2.2.1 rfl; omega
  · rw [wkr_8]; have := h.2.2.2.2.2 rfl; omega
  · rw [wkr_9]

theorem div_mod_sum {k a b : Int} (hb : b ≠ 0) (ib : I64 b) : (divv k a b * b + modv k a b) % 2 ^ wid k = a % 2 ^ wid k := by
  unfold divv modv
  rw [if_neg hb, if_neg hb]
  by_cases h9 : k = 9
  · subst h9
    rw [if_pos rfl, if_pos rfl, wid_9, pow_64]
    have hbz : b % 18446744073709551616 ≠ 0 := by unfold I64 at ib; omega
    rw [law_div9 a b hbz, law_mod9 a b]
    have e1 : (wrap64 (a % 18446744073709551616 / (b % 18446744073709551616)) * b) % 18446744073709551616 = (a % 18446744073709551616 / (b % 18446744073709551616) * (b % 18446744073709551616)) % 18446744073709551616 :=
      mul_congr (wrap64_mod _) (by omega)
    rw [add_congr e1 (wrap64_mod _)]
    have e2 := Int.mul_ediv_add_emod (a % 18446744073709551616) (b % 18446744073709551616)
    rw [Int.mul_comm, e2]
    omega
  · rw [if_neg h9, if_neg h9]
    by_cases h1 : b = -1
    · subst h1
      rw [if_pos rfl, if_pos rfl]
      have e : (wrap64 (-a) * -1) % 2 ^ wid k = (-a * -1) % 2 ^ wid k := mul_congr (wrap64_modw _ _ (wid_le k)) rfl
      rw [Int.add_zero, e]; congr 1; omega
    · rw [if_neg h1, if_neg h1]
      have e : (wrap64 (a.tdiv b) * b) % 2 ^ wid k = (a.tdiv b * b) % 2 ^ wid k := mul_congr (wrap64_modw _ _ (wid_le k)) rfl
      rw [add_congr e rfl, Int.mul_comm, Int.mul_tdiv_add_tmod]
theorem law_divs {k a b : Int} (h : Num k) (ha : isk k a = true) (hb : isk k b = true) (ia : I64 a) (ib : I64 b) :
    binv 6 k a b = (wkr k (divv k a b), k, true) ∧ binv 7 k a b = (wkr k (modv k a b), k, true) ∧
    binv 5 k (wkr k (divv k a b)) b = (wkr k (wrap64 (wkr k (divv k a b) * b)), k, true) ∧
    binv 3 k (wkr k (wrap64 (wkr k (divv k a b) * b))) (wkr k (modv k a b)) = (wkr k (wrap64 (wkr k (wrap64 (wkr k (divv k a b) * b)) + wkr k (modv k a b))), k, true) ∧
    (b ≠ 0 → wkr k (wrap64 (wkr k (wrap64 (wkr k (divv k a b) * b)) + wkr k (modv k a b))) = a) := by
  refine ⟨binv_num h 6 (by decide) ha hb, binv_num h 7 (by decide) ha hb, binv_num h 5 (by decide) (isk_wkr _ h.wid) hb, binv_num h 3 (by decide) (isk_wkr _ h.wid) (isk_wkr _ h.wid), fun h0 => ?_⟩
  refine isk_ext (isk_wkr _ h.wid) ha (wI _ _) ia ?_
  rw [wkr_mod _ h.wid, wrap64_modw _ _ (wid_le k)]
  have e1 : wkr k (wrap64 (wkr k (divv k a b) * b)) % 2 ^ wid k = (divv k a b * b) % 2 ^ wid k := by
    rw [wkr_mod _ h.wid, wrap64_modw _ _ (wid_le k)]; exact mul_congr (wkr_mod _ h.wid) rfl
  rw [add_congr e1 (wkr_mod _ h.wid)]
  exact div_mod_sum h0 ib
theorem tmod_abs {a b : Int} (hb : b ≠ 0) : (0 < b → -b < a.tmod b ∧ a.tmod b < b) ∧ (b < 0 → b < a.tmod b ∧ a.tmod b < -b) := by
  refine ⟨fun h => tmod_bd h, fun h => ?_⟩
  have h1 := tmod_bd (n := a) (p := -b) (by omega)
  rw [Int.tmod_neg] at h1
  omega
theorem pos_u {k a : Int} (hk : k = 6 ∨ k = 7 ∨ k = 8) (h : isk k a = true) : 0 ≤ a := by
  have h1 := (isk_iff.1 h).2
  rcases hk with rfl | rfl | rfl
  · rw [wkr_6] at h1; omega
  · rw [wkr_7] at h1; omega
  · rw [wkr_8] at h1; omega
theorem shrink_u {k a x : Int} (hk : k = 6 ∨ k = 7 ∨ k = 8) (h : isk k a = true) (h0 : 0 ≤ x) (hx : x ≤ a) : wkr k x = x := by
  have h1 := (isk_iff.1 h).2
  rcases hk with rfl | rfl | rfl
  · rw [wkr_6] at *; omega
  · rw [wkr_7] at *; omega
  · rw [wkr_8] at *; omega
theorem shrink_s {k b x : Int} (hk : k = 2 ∨ k = 3 ∨ k = 4 ∨ k = 5) (h : isk k b = true) (hx : (0 < b ∧ -b < x ∧ x < b) ∨ (b < x ∧ x < -b)) : wkr k x = x := by
  have h1 := (isk_iff.1 h).2
  rcases hk with rfl | rfl | rfl | rfl
  · rw [wkr_2] at *; omega
  · rw [wkr_3] at *; omega
  · rw [wkr_4] at *; omega
  · rw [wkr_5]
/-- The rest is smaller than the divisor: kinds without a sign. -/
theorem rest_u {k a b : Int} (hk : 6 ≤ k ∧ k ≤ 9) (ha : isk k a = true) (hb : isk k b = true) (ia : I64 a) (ib : I64 b) (h0 : b ≠ 0) : binv 16 k (wkr k (modv k a b)) b = (1, 1, true) := by
  have hn : Num k := by unfold Num; omega
  rw [show (16 : Int) = ((16 : Nat) : Int) from rfl, binv_num hn 16 (by decide) (isk_wkr _ hn.wid) hb]
  have e : blw k (wkr k (modv k a b)) b = true := by
    by_cases h9 : k = 9
    · subst h9
      have hbz : b % 18446744073709551616 ≠ 0 := by unfold I64 at ib; omega
      have hm : modv 9 a b = wrap64 (a % 18446744073709551616 % (b % 18446744073709551616)) := by unfold modv; rw [if_neg h0, if_pos rfl]; exact law_mod9 a b
      rw [hm, wkr_9, blw_nine', wrap64_mod]
      have h1 := Int.emod_lt_of_pos (a % 18446744073709551616) (show 0 < b % 18446744073709551616 by omega)
      have h2 := Int.emod_nonneg (a % 18446744073709551616) hbz
      simp only [decide_eq_true_eq]; omega
    · have hk' : k = 6 ∨ k = 7 ∨ k = 8 := by omega
      have pa := pos_u hk' ha
      have pb := pos_u hk' hb
      have hm : modv k a b = a.tmod b := by unfold modv; rw [if_neg h0, if_neg h9, if_neg (by omega)]
      have h1 := ((tmod_abs (a := a) h0).1 (by omega)).2
      have h2 : 0 ≤ a.tmod b := Int.tmod_nonneg _ pa
      have h3 : a.tmod b ≤ b := Int.le_of_lt h1
      rw [hm, shrink_u hk' hb h2 h3]
      simp only [blw, if_neg h9, decide_eq_true_eq]; exact h1
  show ((tru (blw k (wkr k (modv k a b)) b) : Int), (1 : Int), true) = (1, 1, true)
  rw [e]; rfl
theorem rest_s {k a b : Int} (hk : 2 ≤ k ∧ k ≤ 5) (ha : isk k a = true) (hb : isk k b = true) (ia : I64 a) (ib : I64 b) (h0 : b ≠ 0) :
    (0 < b → wkr k (modv k a b) < b ∧ -b < wkr k (modv k a b)) ∧ (b < 0 → b < wkr k (modv k a b) ∧ (b = -9223372036854775808 ∨ wkr k (modv k a b) < -b)) := by
  have hn : Num k := by unfold Num; omega
  by_cases h1 : b = -1
  · have hm : modv k a b = 0 := by unfold modv; rw [if_neg h0, if_neg (by omega), if_pos h1]
    rw [hm, wkr_zero]; omega
  · have hm : modv k a b = a.tmod b := by unfold modv; rw [if_neg h0, if_neg (by omega), if_neg h1]
    obtain ⟨t1, t2⟩ := tmod_abs (a := a) h0
    have hx : (0 < b ∧ -b < a.tmod b ∧ a.tmod b < b) ∨ (b < a.tmod b ∧ a.tmod b < -b) := by
      by_cases hp : 0 < b
      · exact .inl ⟨hp, t1 hp⟩
      · exact .inr (t2 (by omega))
    rw [hm, shrink_s (by omega) hb hx]
    clear hm t1 t2
    generalize a.tmod b = x at *
    omega

/-! shifts -/
theorem pow_ge_wid {k : Int} (h : Num k) : 256 ≤ (2 : Int) ^ wid k ∧ 8 ≤ wid k := by
  unfold Num at h
  rcases (show k = 2 ∨ k = 3 ∨ k = 4 ∨ k = 5 ∨ k = 6 ∨ k = 7 ∨ k = 8 ∨ k = 9 by omega) with rfl | rfl | rfl | rfl | rfl | rfl | rfl | rfl <;> decide +kernel
theorem ubits_small {k n : Int} (h : Num k) (h0 : 0 ≤ n) (h1 : n ≤ 70) : ubits k n = n := by
  rw [ubits_eq]; exact Int.emod_eq_of_lt h0 (by have := pow_ge_wid h; omega)
theorem small_k {k n : Int} (h : Num k) (h0 : 0 ≤ n) (h1 : n ≤ 70) : isk k n = true :=
  isk_iff.2 ⟨h.wid, isk_of_range h (by omega)⟩
/-- a, doubled i times. -/
def dblv (k a : Int) (i : Nat) : Int := wkr k (wrap64 (a * 2 ^ i))
theorem dbl_zero {k a : Int} (ha : isk k a = true) (ia : I64 a) : dblv k a 0 = a := by
  unfold dblv; rw [Int.pow_zero, Int.mul_one, wrap64_self ia]; exact (isk_iff.1 ha).2
theorem dbl_step {k a : Int} (h : Num k) (i : Nat) : binv 3 k (dblv k a i) (dblv k a i) = (dblv k a (i + 1), k, true) := by
  have hd : isk k (dblv k a i) = true := isk_wkr _ h.wid
  rw [show (3 : Int) = ((3 : Nat) : Int) from rfl, binv_num h 3 (by decide) hd hd]
  have e : (binr 3 k (dblv k a i) (dblv k a i)).1 = dblv k a (i + 1) := by
    show wkr k (wrap64 (dblv k a i + dblv k a i)) = dblv k a (i + 1)
    refine isk_ext (isk_wkr _ h.wid) (isk_wkr _ h.wid) (wI _ _) (wI _ _) ?_
    unfold dblv
    have e1 : wkr k (wrap64 (a * 2 ^ i)) % 2 ^ wid k = (a * 2 ^ i) % 2 ^ wid k := by rw [wkr_mod _ h.wid, wrap64_modw _ _ (wid_le k)]
    rw [wkr_mod _ h.wid, wrap64_modw _ _ (wid_le k), wkr_mod _ h.wid, wrap64_modw _ _ (wid_le k), add_congr e1 e1, Int.pow_succ, ← Int.mul_assoc]
    congr 1; omega
  rw [e]; rfl
theorem shl_is {k a : Int} (h : Num k) (n : Nat) (hn : n ≤ 70) (ha : isk k a = true) : binv 12 k a n = (dblv k a n, k, true) ∧ (wid k ≤ n → dblv k a n = 0) := by
  have hw := width_wid k
  have e : wkr k (shlv k a k n) = dblv k a n := by
    refine isk_ext (isk_wkr _ h.wid) (isk_wkr _ h.wid) (wkr_I64 (shlv_I64 _ _ _ _)) (wI _ _) ?_
    unfold dblv shlv
    rw [wkr_mod _ h.wid, wkr_mod _ h.wid, wrap64_modw _ _ (wid_le k), ubits_small h (by omega) (by omega), hw]
    by_cases hc : (wid k : Int) ≤ (n : Int)
    · rw [if_pos hc]
      obtain ⟨d, hd⟩ := Nat.le.dest (show wid k ≤ n by omega)
      rw [← hd, Int.pow_add, Int.mul_comm (2 ^ wid k), ← Int.mul_assoc, Int.mul_emod_left]; rfl
    · rw [if_neg hc, wrap64_modw _ _ (wid_le k), Int.toNat_natCast]
      have e1 : IntKind.u64.wrap (ubits k a * 2 ^ n) % 2 ^ wid k = (ubits k a * 2 ^ n) % 2 ^ wid k := by
        rw [u64_eq, ← pow_64]
        obtain ⟨d, hd⟩ := Nat.le.dest (wid_le k)
        rw [← hd, Int.pow_add]
        exact Int.emod_emod_of_dvd _ ⟨2 ^ d, rfl⟩
      rw [e1, ubits_eq]
      exact mul_congr (Int.emod_emod_of_dvd _ (Int.dvd_refl _)) rfl
  refine ⟨?_, fun hc => ?_⟩
  · rw [show (12 : Int) = ((12 : Nat) : Int) from rfl, binv_num h 12 (by decide) ha (small_k h (by omega) (by omega)), ← e]; rfl
  · rw [← e]
    unfold shlv
    rw [ubits_small h (by omega) (by omega), hw, if_pos (by omega)]; exact wkr_zero k
/-- a, halved i times. -/
def hlfv (k a : Int) (i : Nat) : Int := wkr k (if sgn k then a / 2 ^ i else wrap64 (ubits k a / 2 ^ i))
theorem div_div (x : Int) (i : Nat) : x / 2 ^ i / 2 = x / 2 ^ (i + 1) := by
  rw [Int.pow_succ, Int.ediv_ediv_of_nonneg (Int.pow_nonneg (by decide))]
theorem hlf_zero {k a : Int} (h : Num k) (ha : isk k a = true) (ia : I64 a) : hlfv k a 0 = a := by
  unfold hlfv
  by_cases hs : sgn k = true
  · rw [if_pos hs, Int.pow_zero, Int.ediv_one]; exact (isk_iff.1 ha).2
  · rw [if_neg hs, Int.pow_zero, Int.ediv_one]
    refine isk_ext (isk_wkr _ h.wid) ha (wI _ _) ia ?_
    rw [wkr_mod _ h.wid, wrap64_modw _ _ (wid_le k), ubits_eq]
    exact Int.emod_emod_of_dvd _ (Int.dvd_refl _)
theorem hlf_range {a : Int} {m : Nat} (i : Nat) (h0 : -(2 ^ m) ≤ a) (h1 : a < 2 ^ m) : -(2 ^ m) ≤ a / 2 ^ i ∧ a / 2 ^ i < 2 ^ m := by
  have hp := pow_pos' i
  have hm := pow_pos' m
  by_cases h : 0 ≤ a
  · have h2 := Int.ediv_nonneg h (show 0 ≤ (2 : Int) ^ i by omega)
    have h3 := Int.ediv_le_self (2 ^ i) h
    omega
  · have h3 := Int.mul_ediv_add_emod a (2 ^ i)
    have h5 := Int.emod_lt_of_pos a hp
    have h6 : a / 2 ^ i < 0 := Int.ediv_neg_of_neg_of_pos (by omega) hp
    have h7 : 2 ^ i * (a / 2 ^ i + 1) ≤ 1 * (a / 2 ^ i + 1) := Int.mul_le_mul_of_nonpos_right (show (1 : Int) ≤ 2 ^ i by omega) (show a / 2 ^ i + 1 ≤ 0 by omega)
    rw [Int.mul_add] at h7
    omega
theorem wkr_signed {k x : Int} {m : Nat} (hk : 0 < wid k) (hs : sgn k = true) (hm : wid k = m + 1) (h0 : -(2 ^ m) ≤ x) (h1 : x < 2 ^ m) : wkr k x = x := by
  simp only [sgn, Bool.and_eq_true, decide_eq_true_eq] at hs
  rcases (show k = 2 ∨ k = 3 ∨ k = 4 ∨ k = 5 by omega) with rfl | rfl | rfl | rfl
  · rw [wid_2] at hm; obtain rfl : m = 7 := by omega
    have : (2 : Int) ^ 7 = 128 := by decide
    rw [wkr_2]; omega
  · rw [wid_3] at hm; obtain rfl : m = 15 := by omega
    have : (2 : Int) ^ 15 = 32768 := by decide
    rw [wkr_3]; omega
  · rw [wid_4] at hm; obtain rfl : m = 31 := by omega
    have : (2 : Int) ^ 31 = 2147483648 := by decide
    rw [wkr_4]; omega
  · rw [wkr_5]
theorem hlf_s {k a : Int} (hk : 0 < wid k) (hs : sgn k = true) (ha : isk k a = true) (ia : I64 a) (i : Nat) : hlfv k a i = a / 2 ^ i := by
  obtain ⟨m, hm, h0, h1⟩ := signed_bd ia hs ha
  obtain ⟨r0, r1⟩ := hlf_range i h0 h1
  unfold hlfv; rw [if_pos hs]; exact wkr_signed hk hs hm r0 r1
theorem ubits_hlf {k a : Int} (hk : 0 < wid k) (hs : sgn k = false) (i : Nat) : ubits k (hlfv k a i) = ubits k a / 2 ^ i := by
  unfold hlfv
  rw [hs, ubits_eq]
  simp only [Bool.false_eq_true, if_false]
  rw [wkr_mod _ hk, wrap64_modw _ _ (wid_le k)]
  have h0 : 0 ≤ ubits k a := by rw [ubits_eq]; exact Int.emod_nonneg _ (by have := pow_pos' (wid k); omega)
  have h1 : ubits k a < 2 ^ wid k := by rw [ubits_eq]; exact Int.emod_lt_of_pos _ (pow_pos' _)
  have h2 := Int.ediv_nonneg h0 (show 0 ≤ (2 : Int) ^ i by have := pow_pos' i; omega)
  have h3 := Int.ediv_le_self (2 ^ i) h0
  exact Int.emod_eq_of_lt h2 (by omega)
theorem hlf_I64 {k a : Int} (ia : I64 a) (i : Nat) : I64 (hlfv k a i) := by
  unfold hlfv; split
  · exact wkr_I64 (ediv_I64 ia i)
  · exact wI _ _
theorem hlf_step {k a : Int} (h : Num k) (i : Nat) (ha : isk k a = true) (ia : I64 a) : binv 13 k (hlfv k a i) 1 = (hlfv k a (i + 1), k, true) := by
  have hw := width_wid k
  have hd : isk k (hlfv k a i) = true := isk_wkr _ h.wid
  rw [show (13 : Int) = ((13 : Nat) : Int) from rfl, binv_num h 13 (by decide) hd (small_k h (by omega) (by omega))]
  have e : wkr k (shrv k (hlfv k a i) k 1) = hlfv k a (i + 1) := by
    have hb : shrBy k k 1 = 1 := by
      unfold shrBy; rw [ubits_small h (by omega) (by omega), hw, if_neg (by have := pow_ge_wid h; omega)]
    have p1 : (2 : Int) ^ (1 : Int).toNat = 2 := by decide
    unfold shrv
    rw [hb, p1]
    cases hs : sgn k
    · simp only [Bool.false_eq_true, if_false]
      rw [ubits_hlf h.wid hs, div_div]
      unfold hlfv; rw [hs]; rfl
    · rw [hlf_s h.wid hs ha ia i, div_div, hlf_s h.wid hs ha ia (i + 1)]
      obtain ⟨m, hm, h0, h1⟩ := signed_bd ia hs ha
      obtain ⟨r0, r1⟩ := hlf_range (i + 1) h0 h1
      exact wkr_signed h.wid hs hm r0 r1
  rw [← e]; rfl
theorem ediv_sign {a : Int} {m n : Nat} (h0 : -(2 ^ m) ≤ a) (h1 : a < 2 ^ m) (hn : m ≤ n) : a / 2 ^ n = if a < 0 then -1 else 0 := by
  have h2 : (2 : Int) ^ m ≤ 2 ^ n := by
    obtain ⟨d, rfl⟩ := Nat.le.dest hn
    rw [Int.pow_add]
    have := pow_pos' d; have := pow_pos' m
    have := Int.mul_le_mul_of_nonneg_left (show (1 : Int) ≤ 2 ^ d by omega) (show 0 ≤ (2 : Int) ^ m by omega)
    omega
  by_cases h : a < 0
  · rw [if_pos h]
    have h := Int.ediv_emod_unique (a := a) (r := a + 2 ^ n) (q := -1) (pow_pos' n)
    exact (h.2 ⟨by omega, by omega, by omega⟩).1
  · rw [if_neg h]; exact Int.ediv_eq_zero_of_lt (by omega) (by omega)
theorem shr_is {k a : Int} (h : Num k) (n : Nat) (hn : n ≤ 70) (ha : isk k a = true) (ia : I64 a) :
    binv 13 k a n = (hlfv k a n, k, true) ∧ (wid k ≤ n → hlfv k a n = if k ≤ 5 ∧ a < 0 then -1 else 0) := by
  have hw := width_wid k
  have hU0 : 0 ≤ ubits k a := by rw [ubits_eq]; exact Int.emod_nonneg _ (by have := pow_pos' (wid k); omega)
  have hU1 : ubits k a < 2 ^ wid k := by rw [ubits_eq]; exact Int.emod_lt_of_pos _ (pow_pos' _)
  have hs5 : sgn k = true ↔ k ≤ 5 := by
    unfold Num at h
    simp only [sgn, Bool.and_eq_true, decide_eq_true_eq]; omega
  have big : ∀ j : Nat, wid k ≤ j → hlfv k a j = if k ≤ 5 ∧ a < 0 then -1 else 0 := by
    intro j hj
    cases hs : sgn k
    · have : ¬ k ≤ 5 := by rw [← hs5, hs]; decide
      rw [if_neg (by omega)]
      unfold hlfv; rw [hs]
      have e : ubits k a / 2 ^ j = 0 := by
        have h1 := ediv_sign (a := ubits k a) (m := wid k) (n := j) (by omega) hU1 hj
        rw [h1, if_neg (by omega)]
      simp only [Bool.false_eq_true, if_false]
      rw [e]
      have : wrap64 0 = 0 := by rw [wrap64_eq]; rfl
      rw [this, wkr_zero]
    · obtain ⟨m, hm, h0, h1⟩ := signed_bd ia hs ha
      rw [hlf_s h.wid hs ha ia j, ediv_sign h0 h1 (by omega)]
      have := hs5.1 hs
      by_cases hn : a < 0
      · rw [if_pos hn, if_pos ⟨this, hn⟩]
      · rw [if_neg hn, if_neg (by omega)]
  have e : wkr k (shrv k a k n) = hlfv k a n := by
    by_cases hc : wid k ≤ n
    · have hb : shrBy k k n = 64 := by unfold shrBy; rw [ubits_small h (by omega) (by omega), hw, if_pos (by omega)]
      rw [big n hc, ← big 64 (wid_le k)]
      unfold shrv hlfv; rw [hb]; rfl
    · have hb : shrBy k k n = n := by unfold shrBy; rw [ubits_small h (by omega) (by omega), hw, if_neg (by omega)]
      unfold shrv hlfv; rw [hb, Int.toNat_natCast]
  refine ⟨?_, big n⟩
  rw [show (13 : Int) = ((13 : Nat) : Int) from rfl, binv_num h 13 (by decide) ha (small_k h (by omega) (by omega)), ← e]; rfl
end Go.Proofs.Ytkfljmdgegjgjaa
