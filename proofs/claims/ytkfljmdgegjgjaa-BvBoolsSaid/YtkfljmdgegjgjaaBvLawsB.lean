/-
  The laws of chapter 1 of the program alone: what each call returns.
  No condition but that numbers fit 64 bits.
-/
import Derived.Test.YtkfljmdgegjgjaaBvLawsA
import Derived.Test.YtkfljmdgegjgjaaBvLaw4
namespace Go.Proofs.Ytkfljmdgegjgjaa
open Go.RowKit

theorem i64_0 : I64 0 := by unfold I64; omega
theorem i64_1 : I64 1 := by unfold I64; omega
theorem i64_n1 : I64 (-1) := by unfold I64; omega
theorem binv_I {op k a b : Int} (ha : I64 a) (hb : I64 b) : I64 (binv op k a b).1 := by
  cases h : binOk op k a b
  · rw [binv_no h]; exact i64_0
  · rw [binv_yes h]; exact binr_I64 _ ha hb
theorem dov_I {op k a b : Int} (ha : I64 a) (hb : I64 b) : I64 (dov op k a b) := binv_I (wkr_I64 ha) (wkr_I64 hb)
theorem notv_I {k a : Int} : I64 (notv k a) := wkr_I64 (bitsI64 _ _ _ (by simp))

set_option maxHeartbeats 1000000 in
theorem do_any (op k a b : Int) (hb : I64 b) (w : World) :
    Calls Try.prog 24 #[.agg #[.int .i64 k], .int .i64 op, .int .i64 a, .int .i64 b] w fun e w' => e = .returned (.int .i64 (dov op k a b)) ∧ Ext w w' := by
  have hb' := wkr_I64 (k := k) hb
  go_enter Try.func24, Try.ntmps24
  go_wp2_with (first | (go_at_call 16; refine (alive_any _).mono ?_; rintro e w1 ⟨rfl, hx⟩; (first | (with_reducible obtain ⟨t1, rfl⟩ := Ext.tok2 hx) | (obtain ⟨t1, rfl⟩ := Ext.tok hx))) | (go_at_call 17; refine (refWrap_any _ _ _).mono ?_; rintro e w1 ⟨rfl, rfl⟩) | (go_at_call 18; refine (bvBin_any _ _ _ _ (by repeat (first | assumption | apply wkr_I64)) _).mono ?_; rintro e w1 ⟨rfl, hx⟩; (first | (with_reducible obtain ⟨t1, rfl⟩ := Ext.tok2 hx) | (obtain ⟨t1, rfl⟩ := Ext.tok hx))) | (go_at_call 19; refine (refBin_any _ _ _ _ (by repeat (first | assumption | apply wkr_I64)) (by repeat (first | assumption | apply wkr_I64)) _).mono ?_; rintro e w1 ⟨rfl, hx⟩; (first | (with_reducible obtain ⟨t1, rfl⟩ := Ext.tok2 hx) | (obtain ⟨t1, rfl⟩ := Ext.tok hx))) | (go_at_call 29; refine (bvUn_any _ _ _ _).mono ?_; rintro e w1 ⟨rfl, hx⟩; (first | (with_reducible obtain ⟨t1, rfl⟩ := Ext.tok2 hx) | (obtain ⟨t1, rfl⟩ := Ext.tok hx))) | (go_at_call 30; refine (refUn_any _ _ _ _).mono ?_; rintro e w1 ⟨rfl, hx⟩; (first | (with_reducible obtain ⟨t1, rfl⟩ := Ext.tok2 hx) | (obtain ⟨t1, rfl⟩ := Ext.tok hx))) | (go_at_call 20; refine (bvCast_any _ _ _ _).mono ?_; rintro e w1 ⟨rfl, hx⟩; (first | (with_reducible obtain ⟨t1, rfl⟩ := Ext.tok2 hx) | (obtain ⟨t1, rfl⟩ := Ext.tok hx))) | (go_at_call 21; refine (refCast_any _ _ _ _).mono ?_; rintro e w1 ⟨rfl, rfl⟩) | (go_at_call 25; refine (bvWrap_any _ _ _).mono ?_; rintro e w1 ⟨rfl, rfl⟩) | (go_at_call 22; refine (bvIs_any _ _ _).mono ?_; rintro e w1 ⟨rfl, rfl⟩) | (go_at_call 26; refine (refIs_any _ _ _).mono ?_; rintro e w1 ⟨rfl, rfl⟩) | (go_at_call 28; refine (bvZero_any _ _).mono ?_; rintro e w1 ⟨rfl, rfl⟩) | (go_at_call 27; refine (refWidth_any _ _).mono ?_; rintro e w1 ⟨rfl, rfl⟩) | (go_at_call 23; refine (bvWidth_any _ _).mono ?_; rintro e w1 ⟨rfl, rfl⟩))
  go_ret
  exact ⟨rfl, (by repeat first | exact Ext.refl _ | assumption | refine Ext.drew ?_ | refine Ext.extBy ?_ _ | refine Ext.alloc ?_ _ | refine Ext.setCell ?_ (by simp; try omega) _ | (refine Ext.trans ?_ (by assumption)))⟩

theorem unv_not {k : Int} (h : 0 < wid k) (a : Int) : (unv 1 k (wkr k a)).1 = notv k a := by
  have hi := isk_wkr a h
  unfold unv notv
  rw [hi]
  by_cases hk : k = 1
  · subst hk; simp [law_not1 hi]
  · simp [hk]
set_option maxHeartbeats 1000000 in
theorem do2_any {k : Int} (hk : 0 < wid k) (a : Int) (w : World) :
    Calls Try.prog 31 #[.agg #[.int .i64 k], .int .i64 a] w fun e w' => e = .returned (.int .i64 (notv k a)) ∧ Ext w w' := by
  have hl := unv_not hk a
  go_enter Try.func31, Try.ntmps31
  go_wp2_with (first | (go_at_call 16; refine (alive_any _).mono ?_; rintro e w1 ⟨rfl, hx⟩; (first | (with_reducible obtain ⟨t1, rfl⟩ := Ext.tok2 hx) | (obtain ⟨t1, rfl⟩ := Ext.tok hx))) | (go_at_call 17; refine (refWrap_any _ _ _).mono ?_; rintro e w1 ⟨rfl, rfl⟩) | (go_at_call 18; refine (bvBin_any _ _ _ _ (by repeat (first | assumption | apply wkr_I64)) _).mono ?_; rintro e w1 ⟨rfl, hx⟩; (first | (with_reducible obtain ⟨t1, rfl⟩ := Ext.tok2 hx) | (obtain ⟨t1, rfl⟩ := Ext.tok hx))) | (go_at_call 19; refine (refBin_any _ _ _ _ (by repeat (first | assumption | apply wkr_I64)) (by repeat (first | assumption | apply wkr_I64)) _).mono ?_; rintro e w1 ⟨rfl, hx⟩; (first | (with_reducible obtain ⟨t1, rfl⟩ := Ext.tok2 hx) | (obtain ⟨t1, rfl⟩ := Ext.tok hx))) | (go_at_call 29; refine (bvUn_any _ _ _ _).mono ?_; rintro e w1 ⟨rfl, hx⟩; (first | (with_reducible obtain ⟨t1, rfl⟩ := Ext.tok2 hx) | (obtain ⟨t1, rfl⟩ := Ext.tok hx))) | (go_at_call 30; refine (refUn_any _ _ _ _).mono ?_; rintro e w1 ⟨rfl, hx⟩; (first | (with_reducible obtain ⟨t1, rfl⟩ := Ext.tok2 hx) | (obtain ⟨t1, rfl⟩ := Ext.tok hx))) | (go_at_call 20; refine (bvCast_any _ _ _ _).mono ?_; rintro e w1 ⟨rfl, hx⟩; (first | (with_reducible obtain ⟨t1, rfl⟩ := Ext.tok2 hx) | (obtain ⟨t1, rfl⟩ := Ext.tok hx))) | (go_at_call 21; refine (refCast_any _ _ _ _).mono ?_; rintro e w1 ⟨rfl, rfl⟩) | (go_at_call 25; refine (bvWrap_any _ _ _).mono ?_; rintro e w1 ⟨rfl, rfl⟩) | (go_at_call 22; refine (bvIs_any _ _ _).mono ?_; rintro e w1 ⟨rfl, rfl⟩) | (go_at_call 26; refine (refIs_any _ _ _).mono ?_; rintro e w1 ⟨rfl, rfl⟩) | (go_at_call 28; refine (bvZero_any _ _).mono ?_; rintro e w1 ⟨rfl, rfl⟩) | (go_at_call 27; refine (refWidth_any _ _).mono ?_; rintro e w1 ⟨rfl, rfl⟩) | (go_at_call 23; refine (bvWidth_any _ _).mono ?_; rintro e w1 ⟨rfl, rfl⟩))
  ((first | (with_reducible refine region_ext2 (by kernel_rfl) (by kernel_rfl) ?_) | refine region_ext (by kernel_rfl) (by kernel_rfl) ?_); (repeat (go_big_quiet_step (first | exact in_same (refWrap_any _ _ _) | exact in_ext (bvUn_any _ _ _ _)))); refine wpQuiet_nil ?_; rintro _ ⟨t1, rfl⟩)
  go_wp2_with (first | (go_at_call 16; refine (alive_any _).mono ?_; rintro e w1 ⟨rfl, hx⟩; (first | (with_reducible obtain ⟨t1, rfl⟩ := Ext.tok2 hx) | (obtain ⟨t1, rfl⟩ := Ext.tok hx))) | (go_at_call 17; refine (refWrap_any _ _ _).mono ?_; rintro e w1 ⟨rfl, rfl⟩) | (go_at_call 18; refine (bvBin_any _ _ _ _ (by repeat (first | assumption | apply wkr_I64)) _).mono ?_; rintro e w1 ⟨rfl, hx⟩; (first | (with_reducible obtain ⟨t1, rfl⟩ := Ext.tok2 hx) | (obtain ⟨t1, rfl⟩ := Ext.tok hx))) | (go_at_call 19; refine (refBin_any _ _ _ _ (by repeat (first | assumption | apply wkr_I64)) (by repeat (first | assumption | apply wkr_I64)) _).mono ?_; rintro e w1 ⟨rfl, hx⟩; (first | (with_reducible obtain ⟨t1, rfl⟩ := Ext.tok2 hx) | (obtain ⟨t1, rfl⟩ := Ext.tok hx))) | (go_at_call 29; refine (bvUn_any _ _ _ _).mono ?_; rintro e w1 ⟨rfl, hx⟩; (first | (with_reducible obtain ⟨t1, rfl⟩ := Ext.tok2 hx) | (obtain ⟨t1, rfl⟩ := Ext.tok hx))) | (go_at_call 30; refine (refUn_any _ _ _ _).mono ?_; rintro e w1 ⟨rfl, hx⟩; (first | (with_reducible obtain ⟨t1, rfl⟩ := Ext.tok2 hx) | (obtain ⟨t1, rfl⟩ := Ext.tok hx))) | (go_at_call 20; refine (bvCast_any _ _ _ _).mono ?_; rintro e w1 ⟨rfl, hx⟩; (first | (with_reducible obtain ⟨t1, rfl⟩ := Ext.tok2 hx) | (obtain ⟨t1, rfl⟩ := Ext.tok hx))) | (go_at_call 21; refine (refCast_any _ _ _ _).mono ?_; rintro e w1 ⟨rfl, rfl⟩) | (go_at_call 25; refine (bvWrap_any _ _ _).mono ?_; rintro e w1 ⟨rfl, rfl⟩) | (go_at_call 22; refine (bvIs_any _ _ _).mono ?_; rintro e w1 ⟨rfl, rfl⟩) | (go_at_call 26; refine (refIs_any _ _ _).mono ?_; rintro e w1 ⟨rfl, rfl⟩) | (go_at_call 28; refine (bvZero_any _ _).mono ?_; rintro e w1 ⟨rfl, rfl⟩) | (go_at_call 27; refine (refWidth_any _ _).mono ?_; rintro e w1 ⟨rfl, rfl⟩) | (go_at_call 23; refine (bvWidth_any _ _).mono ?_; rintro e w1 ⟨rfl, rfl⟩))
  go_ret
  exact ⟨rfl, (by repeat first | exact Ext.refl _ | assumption | refine Ext.drew ?_ | refine Ext.extBy ?_ _ | refine Ext.alloc ?_ _ | refine Ext.setCell ?_ (by simp; try omega) _ | (refine Ext.trans ?_ (by assumption)))⟩

set_option maxHeartbeats 1000000 in
theorem BvClosed_any (op k a b c d : Int) (ha : I64 a) (hb : I64 b) (hc : I64 c) (hd : I64 d) (w : World) :
    Calls Try.prog 5 #[.int .i64 op, .int .i64 k, .int .i64 a, .int .i64 b, .int .i64 c, .int .i64 d] w fun e w' => e = .returned (.bool true) ∧ Ext w w' := by
  have hl := law_closed op k a b c d
  have hb' := wkr_I64 (k := k) hb
  have hd' := wkr_I64 (k := k) hd
  obtain ⟨⟨x, y, z⟩, h1⟩ : ∃ r, binv op k (wkr k a) (wkr k b) = r := ⟨_, rfl⟩
  obtain ⟨⟨x', y', z'⟩, h2⟩ : ∃ r, binv op k (wkr k c) (wkr k d) = r := ⟨_, rfl⟩
  rw [h1, h2] at hl
  obtain ⟨rfl, rfl, hl⟩ := hl
  simp only at hl
  cases z
  all_goals
    try simp only [Bool.true_eq_false, false_or] at hl
    go_enter Try.func5, Try.ntmps5
    go_wp2_with (first | (go_at_call 16; refine (alive_any _).mono ?_; rintro e w1 ⟨rfl, hx⟩; (first | (with_reducible obtain ⟨t1, rfl⟩ := Ext.tok2 hx) | (obtain ⟨t1, rfl⟩ := Ext.tok hx))) | (go_at_call 17; refine (refWrap_any _ _ _).mono ?_; rintro e w1 ⟨rfl, rfl⟩) | (go_at_call 18; refine (bvBin_any _ _ _ _ (by repeat (first | assumption | apply wkr_I64)) _).mono ?_; rintro e w1 ⟨rfl, hx⟩; (first | (with_reducible obtain ⟨t1, rfl⟩ := Ext.tok2 hx) | (obtain ⟨t1, rfl⟩ := Ext.tok hx))) | (go_at_call 19; refine (refBin_any _ _ _ _ (by repeat (first | assumption | apply wkr_I64)) (by repeat (first | assumption | apply wkr_I64)) _).mono ?_; rintro e w1 ⟨rfl, hx⟩; (first | (with_reducible obtain ⟨t1, rfl⟩ := Ext.tok2 hx) | (obtain ⟨t1, rfl⟩ := Ext.tok hx))) | (go_at_call 29; refine (bvUn_any _ _ _ _).mono ?_; rintro e w1 ⟨rfl, hx⟩; (first | (with_reducible obtain ⟨t1, rfl⟩ := Ext.tok2 hx) | (obtain ⟨t1, rfl⟩ := Ext.tok hx))) | (go_at_call 30; refine (refUn_any _ _ _ _).mono ?_; rintro e w1 ⟨rfl, hx⟩; (first | (with_reducible obtain ⟨t1, rfl⟩ := Ext.tok2 hx) | (obtain ⟨t1, rfl⟩ := Ext.tok hx))) | (go_at_call 20; refine (bvCast_any _ _ _ _).mono ?_; rintro e w1 ⟨rfl, hx⟩; (first | (with_reducible obtain ⟨t1, rfl⟩ := Ext.tok2 hx) | (obtain ⟨t1, rfl⟩ := Ext.tok hx))) | (go_at_call 21; refine (refCast_any _ _ _ _).mono ?_; rintro e w1 ⟨rfl, rfl⟩) | (go_at_call 25; refine (bvWrap_any _ _ _).mono ?_; rintro e w1 ⟨rfl, rfl⟩) | (go_at_call 22; refine (bvIs_any _ _ _).mono ?_; rintro e w1 ⟨rfl, rfl⟩) | (go_at_call 26; refine (refIs_any _ _ _).mono ?_; rintro e w1 ⟨rfl, rfl⟩) | (go_at_call 28; refine (bvZero_any _ _).mono ?_; rintro e w1 ⟨rfl, rfl⟩) | (go_at_call 27; refine (refWidth_any _ _).mono ?_; rintro e w1 ⟨rfl, rfl⟩) | (go_at_call 23; refine (bvWidth_any _ _).mono ?_; rintro e w1 ⟨rfl, rfl⟩))
    go_ret
    exact ⟨rfl, (by repeat first | exact Ext.refl _ | assumption | refine Ext.drew ?_ | refine Ext.extBy ?_ _ | refine Ext.alloc ?_ _ | refine Ext.setCell ?_ (by simp; try omega) _ | (refine Ext.trans ?_ (by assumption)))⟩

set_option maxHeartbeats 1000000 in
theorem BvBack_any (f t a : Int) (ha : I64 a) (w : World) :
    Calls Try.prog 8 #[.int .i64 f, .int .i64 t, .int .i64 a] w fun e w' => e = .returned (.bool true) ∧ Ext w w' := by
  have hl := law_back f t a ha
  obtain ⟨⟨x, z⟩, h1⟩ : ∃ r, castv f t (wkr f a) = r := ⟨_, rfl⟩
  rw [h1] at hl
  obtain ⟨⟨y, z'⟩, h2⟩ : ∃ r, castv t f x = r := ⟨_, rfl⟩
  simp only at hl
  rw [h2] at hl
  simp only at hl
  by_cases hall : z = true ∧ z' = true ∧ ¬ width t < width f ∧ t ≠ 1
  · obtain ⟨rfl, rfl, h3, h4⟩ := hall
    have h5 := hl rfl rfl h3 h4
    have h6 : (t == 1) = false := by simpa using h4
    subst h5
    clear hl h4
    go_enter Try.func8, Try.ntmps8
    go_wp2_with (first | (go_at_call 16; refine (alive_any _).mono ?_; rintro e w1 ⟨rfl, hx⟩; (first | (with_reducible obtain ⟨t1, rfl⟩ := Ext.tok2 hx) | (obtain ⟨t1, rfl⟩ := Ext.tok hx))) | (go_at_call 17; refine (refWrap_any _ _ _).mono ?_; rintro e w1 ⟨rfl, rfl⟩) | (go_at_call 18; refine (bvBin_any _ _ _ _ (by repeat (first | assumption | apply wkr_I64)) _).mono ?_; rintro e w1 ⟨rfl, hx⟩; (first | (with_reducible obtain ⟨t1, rfl⟩ := Ext.tok2 hx) | (obtain ⟨t1, rfl⟩ := Ext.tok hx))) | (go_at_call 19; refine (refBin_any _ _ _ _ (by repeat (first | assumption | apply wkr_I64)) (by repeat (first | assumption | apply wkr_I64)) _).mono ?_; rintro e w1 ⟨rfl, hx⟩; (first | (with_reducible obtain ⟨t1, rfl⟩ := Ext.tok2 hx) | (obtain ⟨t1, rfl⟩ := Ext.tok hx))) | (go_at_call 29; refine (bvUn_any _ _ _ _).mono ?_; rintro e w1 ⟨rfl, hx⟩; (first | (with_reducible obtain ⟨t1, rfl⟩ := Ext.tok2 hx) | (obtain ⟨t1, rfl⟩ := Ext.tok hx))) | (go_at_call 30; refine (refUn_any _ _ _ _).mono ?_; rintro e w1 ⟨rfl, hx⟩; (first | (with_reducible obtain ⟨t1, rfl⟩ := Ext.tok2 hx) | (obtain ⟨t1, rfl⟩ := Ext.tok hx))) | (go_at_call 20; refine (bvCast_any _ _ _ _).mono ?_; rintro e w1 ⟨rfl, hx⟩; (first | (with_reducible obtain ⟨t1, rfl⟩ := Ext.tok2 hx) | (obtain ⟨t1, rfl⟩ := Ext.tok hx))) | (go_at_call 21; refine (refCast_any _ _ _ _).mono ?_; rintro e w1 ⟨rfl, rfl⟩) | (go_at_call 25; refine (bvWrap_any _ _ _).mono ?_; rintro e w1 ⟨rfl, rfl⟩) | (go_at_call 22; refine (bvIs_any _ _ _).mono ?_; rintro e w1 ⟨rfl, rfl⟩) | (go_at_call 26; refine (refIs_any _ _ _).mono ?_; rintro e w1 ⟨rfl, rfl⟩) | (go_at_call 28; refine (bvZero_any _ _).mono ?_; rintro e w1 ⟨rfl, rfl⟩) | (go_at_call 27; refine (refWidth_any _ _).mono ?_; rintro e w1 ⟨rfl, rfl⟩) | (go_at_call 23; refine (bvWidth_any _ _).mono ?_; rintro e w1 ⟨rfl, rfl⟩))
    go_ret
    exact ⟨rfl, (by repeat first | exact Ext.refl _ | assumption | refine Ext.drew ?_ | refine Ext.extBy ?_ _ | refine Ext.alloc ?_ _ | refine Ext.setCell ?_ (by simp; try omega) _ | (refine Ext.trans ?_ (by assumption)))⟩
  · clear hl
    cases z
    · go_enter Try.func8, Try.ntmps8
      go_wp2_with (first | (go_at_call 16; refine (alive_any _).mono ?_; rintro e w1 ⟨rfl, hx⟩; (first | (with_reducible obtain ⟨t1, rfl⟩ := Ext.tok2 hx) | (obtain ⟨t1, rfl⟩ := Ext.tok hx))) | (go_at_call 17; refine (refWrap_any _ _ _).mono ?_; rintro e w1 ⟨rfl, rfl⟩) | (go_at_call 18; refine (bvBin_any _ _ _ _ (by repeat (first | assumption | apply wkr_I64)) _).mono ?_; rintro e w1 ⟨rfl, hx⟩; (first | (with_reducible obtain ⟨t1, rfl⟩ := Ext.tok2 hx) | (obtain ⟨t1, rfl⟩ := Ext.tok hx))) | (go_at_call 19; refine (refBin_any _ _ _ _ (by repeat (first | assumption | apply wkr_I64)) (by repeat (first | assumption | apply wkr_I64)) _).mono ?_; rintro e w1 ⟨rfl, hx⟩; (first | (with_reducible obtain ⟨t1, rfl⟩ := Ext.tok2 hx) | (obtain ⟨t1, rfl⟩ := Ext.tok hx))) | (go_at_call 29; refine (bvUn_any _ _ _ _).mono ?_; rintro e w1 ⟨rfl, hx⟩; (first | (with_reducible obtain ⟨t1, rfl⟩ := Ext.tok2 hx) | (obtain ⟨t1, rfl⟩ := Ext.tok hx))) | (go_at_call 30; refine (refUn_any _ _ _ _).mono ?_; rintro e w1 ⟨rfl, hx⟩; (first | (with_reducible obtain ⟨t1, rfl⟩ := Ext.tok2 hx) | (obtain ⟨t1, rfl⟩ := Ext.tok hx))) | (go_at_call 20; refine (bvCast_any _ _ _ _).mono ?_; rintro e w1 ⟨rfl, hx⟩; (first | (with_reducible obtain ⟨t1, rfl⟩ := Ext.tok2 hx) | (obtain ⟨t1, rfl⟩ := Ext.tok hx))) | (go_at_call 21; refine (refCast_any _ _ _ _).mono ?_; rintro e w1 ⟨rfl, rfl⟩) | (go_at_call 25; refine (bvWrap_any _ _ _).mono ?_; rintro e w1 ⟨rfl, rfl⟩) | (go_at_call 22; refine (bvIs_any _ _ _).mono ?_; rintro e w1 ⟨rfl, rfl⟩) | (go_at_call 26; refine (refIs_any _ _ _).mono ?_; rintro e w1 ⟨rfl, rfl⟩) | (go_at_call 28; refine (bvZero_any _ _).mono ?_; rintro e w1 ⟨rfl, rfl⟩) | (go_at_call 27; refine (refWidth_any _ _).mono ?_; rintro e w1 ⟨rfl, rfl⟩) | (go_at_call 23; refine (bvWidth_any _ _).mono ?_; rintro e w1 ⟨rfl, rfl⟩))
      go_ret
      exact ⟨rfl, (by repeat first | exact Ext.refl _ | assumption | refine Ext.drew ?_ | refine Ext.extBy ?_ _ | refine Ext.alloc ?_ _ | refine Ext.setCell ?_ (by simp; try omega) _ | (refine Ext.trans ?_ (by assumption)))⟩
    cases z'
    · go_enter Try.func8, Try.ntmps8
      go_wp2_with (first | (go_at_call 16; refine (alive_any _).mono ?_; rintro e w1 ⟨rfl, hx⟩; (first | (with_reducible obtain ⟨t1, rfl⟩ := Ext.tok2 hx) | (obtain ⟨t1, rfl⟩ := Ext.tok hx))) | (go_at_call 17; refine (refWrap_any _ _ _).mono ?_; rintro e w1 ⟨rfl, rfl⟩) | (go_at_call 18; refine (bvBin_any _ _ _ _ (by repeat (first | assumption | apply wkr_I64)) _).mono ?_; rintro e w1 ⟨rfl, hx⟩; (first | (with_reducible obtain ⟨t1, rfl⟩ := Ext.tok2 hx) | (obtain ⟨t1, rfl⟩ := Ext.tok hx))) | (go_at_call 19; refine (refBin_any _ _ _ _ (by repeat (first | assumption | apply wkr_I64)) (by repeat (first | assumption | apply wkr_I64)) _).mono ?_; rintro e w1 ⟨rfl, hx⟩; (first | (with_reducible obtain ⟨t1, rfl⟩ := Ext.tok2 hx) | (obtain ⟨t1, rfl⟩ := Ext.tok hx))) | (go_at_call 29; refine (bvUn_any _ _ _ _).mono ?_; rintro e w1 ⟨rfl, hx⟩; (first | (with_reducible obtain ⟨t1, rfl⟩ := Ext.tok2 hx) | (obtain ⟨t1, rfl⟩ := Ext.tok hx))) | (go_at_call 30; refine (refUn_any _ _ _ _).mono ?_; rintro e w1 ⟨rfl, hx⟩; (first | (with_reducible obtain ⟨t1, rfl⟩ := Ext.tok2 hx) | (obtain ⟨t1, rfl⟩ := Ext.tok hx))) | (go_at_call 20; refine (bvCast_any _ _ _ _).mono ?_; rintro e w1 ⟨rfl, hx⟩; (first | (with_reducible obtain ⟨t1, rfl⟩ := Ext.tok2 hx) | (obtain ⟨t1, rfl⟩ := Ext.tok hx))) | (go_at_call 21; refine (refCast_any _ _ _ _).mono ?_; rintro e w1 ⟨rfl, rfl⟩) | (go_at_call 25; refine (bvWrap_any _ _ _).mono ?_; rintro e w1 ⟨rfl, rfl⟩) | (go_at_call 22; refine (bvIs_any _ _ _).mono ?_; rintro e w1 ⟨rfl, rfl⟩) | (go_at_call 26; refine (refIs_any _ _ _).mono ?_; rintro e w1 ⟨rfl, rfl⟩) | (go_at_call 28; refine (bvZero_any _ _).mono ?_; rintro e w1 ⟨rfl, rfl⟩) | (go_at_call 27; refine (refWidth_any _ _).mono ?_; rintro e w1 ⟨rfl, rfl⟩) | (go_at_call 23; refine (bvWidth_any _ _).mono ?_; rintro e w1 ⟨rfl, rfl⟩))
      go_ret
      exact ⟨rfl, (by repeat first | exact Ext.refl _ | assumption | refine Ext.drew ?_ | refine Ext.extBy ?_ _ | refine Ext.alloc ?_ _ | refine Ext.setCell ?_ (by simp; try omega) _ | (refine Ext.trans ?_ (by assumption)))⟩
    by_cases h3 : width t < width f
    · go_enter Try.func8, Try.ntmps8
      go_wp2_with (first | (go_at_call 16; refine (alive_any _).mono ?_; rintro e w1 ⟨rfl, hx⟩; (first | (with_reducible obtain ⟨t1, rfl⟩ := Ext.tok2 hx) | (obtain ⟨t1, rfl⟩ := Ext.tok hx))) | (go_at_call 17; refine (refWrap_any _ _ _).mono ?_; rintro e w1 ⟨rfl, rfl⟩) | (go_at_call 18; refine (bvBin_any _ _ _ _ (by repeat (first | assumption | apply wkr_I64)) _).mono ?_; rintro e w1 ⟨rfl, hx⟩; (first | (with_reducible obtain ⟨t1, rfl⟩ := Ext.tok2 hx) | (obtain ⟨t1, rfl⟩ := Ext.tok hx))) | (go_at_call 19; refine (refBin_any _ _ _ _ (by repeat (first | assumption | apply wkr_I64)) (by repeat (first | assumption | apply wkr_I64)) _).mono ?_; rintro e w1 ⟨rfl, hx⟩; (first | (with_reducible obtain ⟨t1, rfl⟩ := Ext.tok2 hx) | (obtain ⟨t1, rfl⟩ := Ext.tok hx))) | (go_at_call 29; refine (bvUn_any _ _ _ _).mono ?_; rintro e w1 ⟨rfl, hx⟩; (first | (with_reducible obtain ⟨t1, rfl⟩ := Ext.tok2 hx) | (obtain ⟨t1, rfl⟩ := Ext.tok hx))) | (go_at_call 30; refine (refUn_any _ _ _ _).mono ?_; rintro e w1 ⟨rfl, hx⟩; (first | (with_reducible obtain ⟨t1, rfl⟩ := Ext.tok2 hx) | (obtain ⟨t1, rfl⟩ := Ext.tok hx))) | (go_at_call 20; refine (bvCast_any _ _ _ _).mono ?_; rintro e w1 ⟨rfl, hx⟩; (first | (with_reducible obtain ⟨t1, rfl⟩ := Ext.tok2 hx) | (obtain ⟨t1, rfl⟩ := Ext.tok hx))) | (go_at_call 21; refine (refCast_any _ _ _ _).mono ?_; rintro e w1 ⟨rfl, rfl⟩) | (go_at_call 25; refine (bvWrap_any _ _ _).mono ?_; rintro e w1 ⟨rfl, rfl⟩) | (go_at_call 22; refine (bvIs_any _ _ _).mono ?_; rintro e w1 ⟨rfl, rfl⟩) | (go_at_call 26; refine (refIs_any _ _ _).mono ?_; rintro e w1 ⟨rfl, rfl⟩) | (go_at_call 28; refine (bvZero_any _ _).mono ?_; rintro e w1 ⟨rfl, rfl⟩) | (go_at_call 27; refine (refWidth_any _ _).mono ?_; rintro e w1 ⟨rfl, rfl⟩) | (go_at_call 23; refine (bvWidth_any _ _).mono ?_; rintro e w1 ⟨rfl, rfl⟩))
      go_ret
      exact ⟨rfl, (by repeat first | exact Ext.refl _ | assumption | refine Ext.drew ?_ | refine Ext.extBy ?_ _ | refine Ext.alloc ?_ _ | refine Ext.setCell ?_ (by simp; try omega) _ | (refine Ext.trans ?_ (by assumption)))⟩
    · obtain rfl : t = 1 := by
        by_cases h : t = 1
        · exact h
        · exact absurd ⟨rfl, rfl, h3, h⟩ hall
      clear hall
      go_enter Try.func8, Try.ntmps8
      go_wp2_with (first | (go_at_call 16; refine (alive_any _).mono ?_; rintro e w1 ⟨rfl, hx⟩; (first | (with_reducible obtain ⟨t1, rfl⟩ := Ext.tok2 hx) | (obtain ⟨t1, rfl⟩ := Ext.tok hx))) | (go_at_call 17; refine (refWrap_any _ _ _).mono ?_; rintro e w1 ⟨rfl, rfl⟩) | (go_at_call 18; refine (bvBin_any _ _ _ _ (by repeat (first | assumption | apply wkr_I64)) _).mono ?_; rintro e w1 ⟨rfl, hx⟩; (first | (with_reducible obtain ⟨t1, rfl⟩ := Ext.tok2 hx) | (obtain ⟨t1, rfl⟩ := Ext.tok hx))) | (go_at_call 19; refine (refBin_any _ _ _ _ (by repeat (first | assumption | apply wkr_I64)) (by repeat (first | assumption | apply wkr_I64)) _).mono ?_; rintro e w1 ⟨rfl, hx⟩; (first | (with_reducible obtain ⟨t1, rfl⟩ := Ext.tok2 hx) | (obtain ⟨t1, rfl⟩ := Ext.tok hx))) | (go_at_call 29; refine (bvUn_any _ _ _ _).mono ?_; rintro e w1 ⟨rfl, hx⟩; (first | (with_reducible obtain ⟨t1, rfl⟩ := Ext.tok2 hx) | (obtain ⟨t1, rfl⟩ := Ext.tok hx))) | (go_at_call 30; refine (refUn_any _ _ _ _).mono ?_; rintro e w1 ⟨rfl, hx⟩; (first | (with_reducible obtain ⟨t1, rfl⟩ := Ext.tok2 hx) | (obtain ⟨t1, rfl⟩ := Ext.tok hx))) | (go_at_call 20; refine (bvCast_any _ _ _ _).mono ?_; rintro e w1 ⟨rfl, hx⟩; (first | (with_reducible obtain ⟨t1, rfl⟩ := Ext.tok2 hx) | (obtain ⟨t1, rfl⟩ := Ext.tok hx))) | (go_at_call 21; refine (refCast_any _ _ _ _).mono ?_; rintro e w1 ⟨rfl, rfl⟩) | (go_at_call 25; refine (bvWrap_any _ _ _).mono ?_; rintro e w1 ⟨rfl, rfl⟩) | (go_at_call 22; refine (bvIs_any _ _ _).mono ?_; rintro e w1 ⟨rfl, rfl⟩) | (go_at_call 26; refine (refIs_any _ _ _).mono ?_; rintro e w1 ⟨rfl, rfl⟩) | (go_at_call 28; refine (bvZero_any _ _).mono ?_; rintro e w1 ⟨rfl, rfl⟩) | (go_at_call 27; refine (refWidth_any _ _).mono ?_; rintro e w1 ⟨rfl, rfl⟩) | (go_at_call 23; refine (bvWidth_any _ _).mono ?_; rintro e w1 ⟨rfl, rfl⟩))
      go_ret
      exact ⟨rfl, (by repeat first | exact Ext.refl _ | assumption | refine Ext.drew ?_ | refine Ext.extBy ?_ _ | refine Ext.alloc ?_ _ | refine Ext.setCell ?_ (by simp; try omega) _ | (refine Ext.trans ?_ (by assumption)))⟩
end Go.Proofs.Ytkfljmdgegjgjaa
