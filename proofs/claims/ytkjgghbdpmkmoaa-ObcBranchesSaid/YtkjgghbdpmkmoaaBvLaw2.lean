/-
  The plain laws of values: rings, bits, orders, shifts, divisions.
  No condition but that numbers fit 64 bits.
-/
import Derived.Test.YtkjgghbdpmkmoaaBvLaw
import Derived.Test.YtkjgghbdpmkmoaaBvBinPlain
namespace Go.Proofs.Ytkjgghbdpmkmoaa
open Go.RowKit
set_option linter.unusedSimpArgs false
set_option linter.unusedVariables false
set_option maxRecDepth 100000

theorem wkr_I64 {k n : Int} (h : I64 n) : I64 (wkr k n) := by
  unfold I64 at *
  rcases kinds k with rfl | rfl | rfl | rfl | rfl | rfl | rfl | rfl | rfl | hk
  · rw [wkr_1]; omega
  · rw [wkr_2]; omega
  · rw [wkr_3]; omega
  · rw [wkr_4]; omega
  · rw [wkr_5]; omega
  · rw [wkr_6]; omega
  · rw [wkr_7]; omega
  · rw [wkr_8]; omega
  · rw [wkr_9]; omega
  · rw [wkr_none _ hk]; omega
theorem wkr_wkr (k n : Int) : wkr k (wkr k n) = wkr k n := by
  rcases kinds k with rfl | rfl | rfl | rfl | rfl | rfl | rfl | rfl | rfl | hk
  · rw [wkr_1, wkr_1]; omega
  · rw [wkr_2, wkr_2]; omega
  · rw [wkr_3, wkr_3]; omega
  · rw [wkr_4, wkr_4]; omega
  · rw [wkr_5, wkr_5]
  · rw [wkr_6, wkr_6]; omega
  · rw [wkr_7, wkr_7]; omega
  · rw [wkr_8, wkr_8]; omega
  · rw [wkr_9, wkr_9]
  · rw [wkr_none _ hk, wkr_none _ hk]
theorem isk_iff {k n : Int} : isk k n = true ↔ 0 < wid k ∧ wkr k n = n := by
  have := width_wid k
  simp only [isk, Bool.and_eq_true, decide_eq_true_eq, beq_iff_eq]
  omega
theorem isk_wkr {k : Int} (n : Int) (h : 0 < wid k) : isk k (wkr k n) = true := isk_iff.2 ⟨h, wkr_wkr k n⟩
theorem isk_none {k : Int} (n : Int) (h : ¬ 0 < wid k) : isk k n = false := by
  cases e : isk k n
  · rfl
  · exact absurd (isk_iff.1 e).1 h
theorem wid_1 : wid 1 = 1 := by decide
theorem wid_2 : wid 2 = 8 := by decide
theorem wid_3 : wid 3 = 16 := by decide
theorem wid_4 : wid 4 = 32 := by decide
theorem wid_5 : wid 5 = 64 := by decide
theorem wid_6 : wid 6 = 8 := by decide
theorem wid_7 : wid 7 = 16 := by decide
theorem wid_8 : wid 8 = 32 := by decide
theorem wid_9 : wid 9 = 64 := by decide
theorem pow_1 : (2 : Int) ^ 1 = 2 := by decide
theorem pow_8 : (2 : Int) ^ 8 = 256 := by decide
theorem pow_16 : (2 : Int) ^ 16 = 65536 := by decide
theorem pow_32 : (2 : Int) ^ 32 = 4294967296 := by decide
theorem pow_64 : (2 : Int) ^ 64 = 18446744073709551616 := by decide
theorem wkr_mod {k : Int} (n : Int) (h : 0 < wid k) : wkr k n % 2 ^ wid k = n % 2 ^ wid k := by
  rcases kinds k with rfl | rfl | rfl | rfl | rfl | rfl | rfl | rfl | rfl | hk
  · rw [wid_1, pow_1, wkr_1]; omega
  · rw [wid_2, pow_8, wkr_2]; omega
  · rw [wid_3, pow_16, wkr_3]; omega
  · rw [wid_4, pow_32, wkr_4]; omega
  · rw [wkr_5]
  · rw [wid_6, pow_8, wkr_6]; omega
  · rw [wid_7, pow_16, wkr_7]; omega
  · rw [wid_8, pow_32, wkr_8]; omega
  · rw [wkr_9]
  · have := width_wid k; omega
theorem isk_ext {k x y : Int} (hx : isk k x = true) (hy : isk k y = true) (ix : I64 x) (iy : I64 y) (h : x % 2 ^ wid k = y % 2 ^ wid k) : x = y := by
  rw [← (isk_iff.1 hx).2, ← (isk_iff.1 hy).2]
  exact wkr_congr ix iy h
theorem wrap64_modw (n : Int) (m : Nat) (h : m ≤ 64) : wrap64 n % 2 ^ m = n % 2 ^ m := by
  obtain ⟨d, hd⟩ := Nat.le.dest h
  have e : (2 : Int) ^ 64 = 2 ^ m * 2 ^ d := by rw [← Int.pow_add, hd]
  have h1 := wrap64_mod n
  rw [← pow_64, e] at h1
  rw [← Int.emod_emod_of_dvd (wrap64 n) (⟨2 ^ d, rfl⟩ : (2 : Int) ^ m ∣ 2 ^ m * 2 ^ d), h1, Int.emod_emod_of_dvd _ ⟨2 ^ d, rfl⟩]
theorem add_congr {a b c d M : Int} (h1 : a % M = b % M) (h2 : c % M = d % M) : (a + c) % M = (b + d) % M := by rw [Int.add_emod, h1, h2, ← Int.add_emod]
theorem sub_congr {a b c d M : Int} (h1 : a % M = b % M) (h2 : c % M = d % M) : (a - c) % M = (b - d) % M := by rw [Int.sub_emod, h1, h2, ← Int.sub_emod]
theorem mul_congr {a b c d M : Int} (h1 : a % M = b % M) (h2 : c % M = d % M) : (a * c) % M = (b * d) % M := by rw [Int.mul_emod, h1, h2, ← Int.mul_emod]
theorem bits_ext {m : Nat} {x y : Int} (h : ∀ i, i < m → bitI x i = bitI y i) : x % 2 ^ m = y % 2 ^ m := by
  induction m with
  | zero => simp [Int.emod_one]
  | succ m ih => rw [mod_succ, mod_succ, ih (fun i hi => h i (by omega)), h m (by omega)]
theorem bitI_congr {m i : Nat} {x y : Int} (hi : i < m) (h : x % 2 ^ m = y % 2 ^ m) : bitI x i = bitI y i := by rw [← bitI_mod x m i hi, ← bitI_mod y m i hi, h]

/-- A kind of numbers. -/
def Num (k : Int) : Prop := 2 ≤ k ∧ k ≤ 9
theorem Num.wid {k : Int} (h : Num k) : 0 < wid k := by
  unfold Num at h
  rcases (show k = 2 ∨ k = 3 ∨ k = 4 ∨ k = 5 ∨ k = 6 ∨ k = 7 ∨ k = 8 ∨ k = 9 by omega) with rfl | rfl | rfl | rfl | rfl | rfl | rfl | rfl <;> decide
theorem Num.ne {k : Int} (h : Num k) : (k == 1) = false := by unfold Num at h; simp; omega
theorem fits_k {k : Int} (hk : (k == 1) = false) (n : Int) : fitsv n k = (bits .and .i64 n 2 != 0) := by
  have : k ≠ 1 := by simpa using hk
  simp [fitsv, this]
theorem fits_b (n : Int) : fitsv n 1 = (bits .and .i64 n 1 != 0) := by simp [fitsv]
theorem f21 : (bits .and .i64 2 1 != 0) = false := by decide +kernel
theorem f31 : (bits .and .i64 3 1 != 0) = true := by decide +kernel
theorem f11 : (bits .and .i64 1 1 != 0) = true := by decide +kernel
theorem f22 : (bits .and .i64 2 2 != 0) = true := by decide +kernel
theorem f32 : (bits .and .i64 3 2 != 0) = true := by decide +kernel
theorem f12 : (bits .and .i64 1 2 != 0) = false := by decide +kernel
theorem f01 : (bits .and .i64 0 1 != 0) = false := by decide +kernel
theorem f02 : (bits .and .i64 0 2 != 0) = false := by decide +kernel
theorem binv_no {op k a b : Int} (h : binOk op k a b = false) : binv op k a b = (0, 0, false) := by simp [binv, h]
theorem binv_yes {op k a b : Int} (h : binOk op k a b = true) : binv op k a b = ((binr op.toNat k a b).1, (binr op.toNat k a b).2, true) := by simp [binv, h]
theorem Num.ok {k a b : Int} (h : Num k) (n : Nat) (hn : opOf n = 2 ∨ opOf n = 3) (ha : isk k a = true) (hb : isk k b = true) : binOk (n : Int) k a b = true := by
  rcases hn with hn | hn <;> simp [binOk, ha, hb, fits_k h.ne, hn, f22, f32]

def dov (op k a b : Int) : Int := (binv op k (wkr k a) (wkr k b)).1
theorem dov_eq {k : Int} (h : Num k) (n : Nat) (hn : opOf n = 2 ∨ opOf n = 3) (a b : Int) : dov n k a b = (binr n k (wkr k a) (wkr k b)).1 := by
  unfold dov
  rw [binv_yes (h.ok n hn (isk_wkr _ h.wid) (isk_wkr _ h.wid))]; rfl
theorem divv_I64 {k a b : Int} (_ha : I64 a) (_hb : I64 b) : I64 (divv k a b) := by
  unfold divv; split
  · unfold I64; omega
  · split
    · exact wrap64_I64 _
    · split <;> exact wrap64_I64 _
theorem tmod_I64 {a b : Int} (ha : I64 a) : I64 (a.tmod b) := by
  have h := @Int.natAbs_tmod a b
  have h2 := Nat.mod_le a.natAbs b.natAbs
  have h3 := @Int.tmod_eq_emod a b
  have h4 : a < 0 → a.tmod b ≤ 0 := by
    intro h0
    by_cases hd : b ∣ a
    · rw [if_pos (.inr hd)] at h3
      rw [h3, Int.emod_eq_zero_of_dvd hd]; decide
    · rw [if_neg (by rintro (h | h); · omega
                     · exact hd h)] at h3
      by_cases hb : b = 0
      · subst hb; rw [Int.tmod_zero]; omega
      · have := Int.emod_lt a hb
        omega
  unfold I64 at *
  omega
theorem modv_I64 {k a b : Int} (ha : I64 a) : I64 (modv k a b) := by
  unfold modv; split
  · unfold I64; omega
  · split
    · exact wrap64_I64 _
    · split
      · unfold I64; omega
      · exact tmod_I64 ha
theorem shlv_I64 (k a l b : Int) : I64 (shlv k a l b) := by
  unfold shlv; split
  · unfold I64; omega
  · exact wrap64_I64 _
theorem ediv_I64 {a : Int} (ha : I64 a) (s : Nat) : I64 (a / 2 ^ s) := by
  have hp := pow_pos' s
  unfold I64 at ha ⊢
  by_cases h : 0 ≤ a
  · have h1 := Int.ediv_nonneg h (show 0 ≤ (2 : Int) ^ s by omega)
    have h2 := Int.ediv_le_self (2 ^ s) h
    omega
  · have h3 := Int.mul_ediv_add_emod a (2 ^ s)
    have h4 := Int.emod_nonneg a (show (2 : Int) ^ s ≠ 0 by omega)
    have h5 := Int.emod_lt_of_pos a hp
    have h6 : a / 2 ^ s < 0 := Int.ediv_neg_of_neg_of_pos (by omega) hp
    have h7 : 2 ^ s * (a / 2 ^ s + 1) ≤ 1 * (a / 2 ^ s + 1) := Int.mul_le_mul_of_nonpos_right (show (1 : Int) ≤ 2 ^ s by omega) (show a / 2 ^ s + 1 ≤ 0 by omega)
    rw [Int.mul_add] at h7
    omega
theorem shrv_I64 {k a l b : Int} (ha : I64 a) : I64 (shrv k a l b) := by
  unfold shrv; split
  · exact ediv_I64 ha _
  · exact wrap64_I64 _
theorem tru_I64 (b : Bool) : I64 (tru b) := by cases b <;> (unfold I64; decide)
theorem isk_tru (b : Bool) : isk 1 (tru b) = true := by cases b <;> decide +kernel

theorem binr_I64 (n : Nat) {k a b : Int} (ha : I64 a) (hb : I64 b) : I64 (binr n k a b).1 := by
  unfold binr
  split
  all_goals first
    | exact wkr_I64 (wrap64_I64 _)
    | exact wkr_I64 (divv_I64 ha hb)
    | exact wkr_I64 (modv_I64 ha)
    | exact wkr_I64 (bitsI64 _ _ _ (by simp))
    | exact tru_I64 _
    | exact wkr_I64 (shlv_I64 _ _ _ _)
    | exact wkr_I64 (shrv_I64 ha)
    | (unfold I64; decide)
theorem binr_snd (n : Nat) (k a b c d : Int) : (binr n k a b).2 = (binr n k c d).2 := by
  unfold binr
  split <;> rfl
theorem binr_is (n : Nat) {k : Int} (a b : Int) (h : 0 < wid k) (hn : opOf n ≠ 0) : isk (binr n k a b).2 (binr n k a b).1 = true :=
  match n, hn with
  | 0, hn => absurd rfl hn
  | 1, hn => absurd rfl hn
  | 2, hn => absurd rfl hn
  | 3, _ => isk_wkr _ h
  | 4, _ => isk_wkr _ h
  | 5, _ => isk_wkr _ h
  | 6, _ => isk_wkr _ h
  | 7, _ => isk_wkr _ h
  | 8, _ => isk_wkr _ h
  | 9, _ => isk_wkr _ h
  | 10, _ => isk_wkr _ h
  | 11, _ => isk_tru _
  | 12, _ => isk_wkr _ h
  | 13, _ => isk_wkr _ h
  | 14, _ => isk_tru _
  | 15, _ => isk_tru _
  | 16, _ => isk_tru _
  | 17, _ => isk_tru _
  | 18, _ => isk_tru _
  | 19, _ => isk_tru _
  | n + 20, hn => absurd (opOf_big (n + 20) (by omega)) hn

theorem law_closed (op k a b c d : Int) :
    (binv op k (wkr k a) (wkr k b)).2.2 = (binv op k (wkr k c) (wkr k d)).2.2 ∧ (binv op k (wkr k a) (wkr k b)).2.1 = (binv op k (wkr k c) (wkr k d)).2.1 ∧
      ((binv op k (wkr k a) (wkr k b)).2.2 = false ∨ isk (binv op k (wkr k a) (wkr k b)).2.1 (binv op k (wkr k a) (wkr k b)).1 = true) := by
  by_cases hw : 0 < wid k
  · have e : binOk op k (wkr k a) (wkr k b) = binOk op k (wkr k c) (wkr k d) := by simp [binOk, isk_wkr _ hw]
    cases h : binOk op k (wkr k a) (wkr k b)
    · rw [binv_no h, binv_no (e ▸ h)]; simp
    · rw [binv_yes h, binv_yes (e ▸ h)]
      refine ⟨rfl, binr_snd _ _ _ _ _ _, .inr (binr_is _ _ _ hw ?_)⟩
      intro h0
      simp [binOk, h0, fits0] at h
  · have e : ∀ x y, binOk op k x y = false := fun x y => by simp [binOk, isk_none _ hw]
    rw [binv_no (e _ _), binv_no (e _ _)]; simp

theorem law_back (f t a : Int) (ha : I64 a) (h1 : (castv f t (wkr f a)).2 = true) (h2 : (castv t f (castv f t (wkr f a)).1).2 = true) (h3 : ¬ width t < width f) (h4 : t ≠ 1) :
    (castv t f (castv f t (wkr f a)).1).1 = wkr f a := by
  have hwt := width_wid t
  have hwf := width_wid f
  have hf : isk f (wkr f a) = true := by
    cases h : isk f (wkr f a)
    · simp [castv, h] at h1
    · rfl
  have hf0 := (isk_iff.1 hf).1
  have ht0 : 0 < wid t := by omega
  have e1 : castv f t (wkr f a) = (wkr t (wkr f a), true) := by
    unfold castv; rw [if_neg (by rw [hf]; simp; omega), if_neg h4]
  rw [e1] at h2 ⊢
  have hI := wkr_I64 (k := f) ha
  have hmod := wkr_mod (k := t) (wkr f a) ht0
  have hmf : wkr t (wkr f a) % 2 ^ wid f = wkr f a % 2 ^ wid f := by
    obtain ⟨d, hd⟩ := Nat.le.dest (show wid f ≤ wid t by omega)
    have e : (2 : Int) ^ wid t = 2 ^ wid f * 2 ^ d := by rw [← Int.pow_add, hd]
    rw [e] at hmod
    rw [← Int.emod_emod_of_dvd (wkr t (wkr f a)) (⟨2 ^ d, rfl⟩ : (2 : Int) ^ wid f ∣ 2 ^ wid f * 2 ^ d), hmod, Int.emod_emod_of_dvd _ ⟨2 ^ d, rfl⟩]
  have ht : isk t (wkr t (wkr f a)) = true := isk_wkr _ ht0
  have e2 : castv t f (wkr t (wkr f a)) = if f = 1 then (tru (wkr t (wkr f a) != 0), true) else (wkr f (wkr t (wkr f a)), true) := by
    unfold castv; rw [if_neg (by rw [ht]; simp; omega)]
  rw [e2]
  by_cases hf1 : f = 1
  · subst hf1
    rw [if_pos rfl]
    rw [wid_1, pow_1] at hmf
    rcases isk_one hf with h | h
    · rw [h] at hmod ⊢
      have : wkr t 0 = 0 := by
        rcases kinds t with rfl | rfl | rfl | rfl | rfl | rfl | rfl | rfl | rfl | hk <;> first | decide +kernel | exact wkr_none _ hk
      rw [this]; rfl
    · rw [h] at hmf ⊢
      have : wkr t 1 ≠ 0 := by omega
      show tru (wkr t 1 != 0) = 1
      simp [this, tru]
  · rw [if_neg hf1]
    show wkr f (wkr t (wkr f a)) = wkr f a
    rw [wkr_congr (wkr_I64 hI) hI hmf, wkr_wkr]
end Go.Proofs.Ytkjgghbdpmkmoaa
