import Derived.Test.YtkjgghbdpmkmoaaBvWalkA
namespace Go.Proofs.Ytkjgghbdpmkmoaa
open Go.RowKit
set_option linter.unusedSimpArgs false
set_option linter.unusedVariables false
set_option maxRecDepth 100000

theorem wraps_u64 (n : Int) (h₀ : 0 ≤ n) (h₁ : n < 2 ^ 64) : IntKind.u64.wrap n = n := by
  simp [IntKind.wrap, IntKind.bits, IntKind.signed]; omega

theorem ubits_mask (n : Int) (i : Nat) (hi : i ≤ 64) : bits .and .u64 (IntKind.u64.wrap n) (2 ^ i - 1) = n % 2 ^ i := by
  have e : IntKind.u64.wrap n = n % 2 ^ 64 := by simp [IntKind.wrap, IntKind.bits, IntKind.signed]
  rw [e, bits_mask .u64 64 (by decide) wraps_u64 i hi _ (by omega) (by omega), Int.emod_emod_of_dvd]
  show (2 : Int) ^ i ∣ 2 ^ 64
  obtain ⟨d, hd⟩ := Nat.le.dest hi
  exact ⟨2 ^ d, by rw [← Int.pow_add, hd]⟩

theorem bvBits_any (k n : Int) (w : World) :
    Calls Try.prog 73 #[.agg #[.int .i64 k, .int .i64 n]] w fun e w' => e = .returned (.int .u64 (ubits k n)) ∧ Ext w w' := by
  have e0 : IntKind.i64.wrap 64 = 64 := by decide
  have e1 : IntKind.i64.wrap 63 = 63 := by decide
  have e2 : IntKind.i64.wrap 56 = 56 := by decide
  have e3 : IntKind.i64.wrap 48 = 48 := by decide
  have e4 : IntKind.i64.wrap 32 = 32 := by decide
  have e5 : IntKind.i64.wrap 0 = 0 := by decide
  rcases width_cases k with hw | hw | hw | hw | hw | hw
  all_goals
    go_enter Try.func73, Try.ntmps73
    go_wp2_with fail
    refine region_still (by kernel_rfl) (by kernel_rfl) ?_
    repeat still_step
    still_call (still_in (bvWidth_any _ _))
    repeat still_step
    refine wpStill_nil ?_
    go_wp2
  all_goals go_ret
  all_goals refine ⟨?_, ((Ext.refl _).alloc _).drew⟩
  all_goals simp only [ubits, hw]
  · exact ret_int (ubits_mask n 0 (by decide))
  · exact ret_int (ubits_mask n 1 (by decide))
  · exact ret_int (ubits_mask n 8 (by decide))
  · exact ret_int (ubits_mask n 16 (by decide))
  · exact ret_int (ubits_mask n 32 (by decide))
  · exact ret_int (ubits_mask n 64 (by decide))


set_option maxHeartbeats 1000000 in
theorem bvShl_any (k n k' m : Int) (w : World) :
    Calls Try.prog 65 #[.agg #[.int .i64 k, .int .i64 n], .agg #[.int .i64 k', .int .i64 m]] w fun e w' => e = .returned (.agg #[.int .i64 k, .int .i64 (wkr k (shlv k n k' m))]) ∧ Ext w w' := by
  have h0 : 0 ≤ width k := by have := width_cases k; omega
  have h1 : width k ≤ 64 := by have := width_cases k; omega
  have h2 : 0 ≤ ubits k' m := Int.emod_nonneg _ (Int.pow_ne_zero (by decide))
  have hu : IntKind.u64.wrap (width k) = width k := wraps_u64 _ h0 (by omega)
  by_cases hc : width k ≤ ubits k' m
  · go_enter Try.func65, Try.ntmps65
    go_wp2_with fail
    ((first | (with_reducible refine region_ext2 (by kernel_rfl) (by kernel_rfl) ?_) | refine region_ext (by kernel_rfl) (by kernel_rfl) ?_); (repeat (go_big_quiet_step (first | exact in_same (bvWidth_any _ _) | exact in_ext (bvBits_any _ _ _)))); refine wpQuiet_nil ?_; rintro _ ⟨t1, rfl⟩)
    go_wp2_with (first | (go_at_call 49; refine (bvOf_any _ _ _ _).mono ?_; rintro e w1 ⟨rfl, hx⟩; (first | (with_reducible obtain ⟨t2, rfl⟩ := Ext.tok2 hx) | (obtain ⟨t2, rfl⟩ := Ext.tok hx))))
    exact bodyPost_ret (v := .agg #[.int .i64 k, .int .i64 (wkr k (shlv k n k' m))]) (by simp [results, Try.results65, go_sem, shlv, hc]) rfl ⟨rfl, (by repeat first | exact Ext.refl _ | assumption | refine Ext.drew ?_ | refine Ext.drewN ?_ _ | refine Ext.extBy ?_ _ | refine Ext.alloc ?_ _ | refine Ext.setCell ?_ (by simp; try omega) _ | (refine Ext.trans ?_ (by assumption)))⟩
  · go_enter Try.func65, Try.ntmps65
    go_wp2_with fail
    ((first | (with_reducible refine region_ext2 (by kernel_rfl) (by kernel_rfl) ?_) | refine region_ext (by kernel_rfl) (by kernel_rfl) ?_); (repeat (go_big_quiet_step (first | exact in_same (bvWidth_any _ _) | exact in_ext (bvBits_any _ _ _)))); refine wpQuiet_nil ?_; rintro _ ⟨t1, rfl⟩)
    go_wp2_with fail
    ((first | (with_reducible refine region_ext_tail2 7 (by kernel_rfl) (by kernel_rfl) ?_) | refine region_ext_tail 7 (by kernel_rfl) (by kernel_rfl) ?_); simp only [List.take_succ_cons, List.take_zero, List.drop_succ_cons, List.drop_zero]; (repeat (go_big_quiet_step (first | exact in_ext (bvBits_any _ _ _)))); refine wpQuiet_nil ?_; rintro _ ⟨t1, rfl⟩)
    go_wp2_with (first | (go_at_call 49; refine (bvOf_any _ _ _ _).mono ?_; rintro e w1 ⟨rfl, hx⟩; (first | (with_reducible obtain ⟨t2, rfl⟩ := Ext.tok2 hx) | (obtain ⟨t2, rfl⟩ := Ext.tok hx))))
    have hc2 : ¬ width k ≤ ubits k' m := by omega
    refine bodyPost_ret (v := .agg #[.int .i64 k, .int .i64 (wkr k (shlv k n k' m))]) (by simp [results, Try.results65, go_sem, shlv, hc2]) rfl ⟨rfl, (by repeat first | exact Ext.refl _ | assumption | refine Ext.drew ?_ | refine Ext.drewN ?_ _ | refine Ext.extBy ?_ _ | refine Ext.alloc ?_ _ | refine Ext.setCell ?_ (by simp; try omega) _ | (refine Ext.trans ?_ (by assumption)))⟩

set_option maxHeartbeats 1000000 in
theorem bvShr_any (k n k' m : Int) (w : World) :
    Calls Try.prog 66 #[.agg #[.int .i64 k, .int .i64 n], .agg #[.int .i64 k', .int .i64 m]] w fun e w' => e = .returned (.agg #[.int .i64 k, .int .i64 (wkr k (shrv k n k' m))]) ∧ Ext w w' := by
  have h0 : 0 ≤ width k := by have := width_cases k; omega
  have h1 : width k ≤ 64 := by have := width_cases k; omega
  have h2 : 0 ≤ ubits k' m := Int.emod_nonneg _ (Int.pow_ne_zero (by decide))
  have hu : IntKind.u64.wrap (width k) = width k := wraps_u64 _ h0 (by omega)
  have hc : 64 < ubits k' m ∨ (ubits k' m ≤ 64 ∧ width k ≤ ubits k' m) ∨ ubits k' m < width k := by omega
  cases hs : sgn k
  all_goals rcases hc with hc | hc | hc
  all_goals
    have hb : shrBy k k' m = if width k ≤ ubits k' m then 64 else ubits k' m := rfl
    first | rw [if_pos (by omega)] at hb | rw [if_neg (by omega)] at hb
    have hv : shrv k n k' m = if sgn k then n / 2 ^ (shrBy k k' m).toNat else wrap64 (ubits k n / 2 ^ (shrBy k k' m).toNat) := rfl
    rw [hb, hs] at hv
    simp at hv
    have HV := Lib.hid hv
    clear hv hb
    try (obtain ⟨hc, hc'⟩ := hc)
    go_enter Try.func66, Try.ntmps66
    go_wp2_with (first | (go_at_call 49; refine (bvOf_any _ _ _ _).mono ?_; rintro e w1 ⟨rfl, hx⟩; (first | (with_reducible obtain ⟨t2, rfl⟩ := Ext.tok2 hx) | (obtain ⟨t2, rfl⟩ := Ext.tok hx))) | (go_at_call 73; refine (bvBits_any _ _ _).mono ?_; rintro e w1 ⟨rfl, hx⟩; (first | (with_reducible obtain ⟨t1, rfl⟩ := Ext.tok2 hx) | (obtain ⟨t1, rfl⟩ := Ext.tok hx))) | (go_at_call 29; refine (bvWidth_any _ _).mono ?_; rintro e w1 ⟨rfl, rfl⟩) | (go_at_call 74; refine (bvSigned_any _ _).mono ?_; rintro e w1 ⟨rfl, rfl⟩))
    try (((first | (with_reducible refine region_ext_tail2 6 (by kernel_rfl) (by kernel_rfl) ?_) | refine region_ext_tail 6 (by kernel_rfl) (by kernel_rfl) ?_); simp only [List.take_succ_cons, List.take_zero, List.drop_succ_cons, List.drop_zero]; (repeat (go_big_quiet_step (first | exact in_ext (bvBits_any _ _ _)))); refine wpQuiet_nil ?_; rintro _ ⟨t1, rfl⟩))
    try go_wp2_with (first | (go_at_call 49; refine (bvOf_any _ _ _ _).mono ?_; rintro e w1 ⟨rfl, hx⟩; (first | (with_reducible obtain ⟨t2, rfl⟩ := Ext.tok2 hx) | (obtain ⟨t2, rfl⟩ := Ext.tok hx))))
    refine bodyPost_ret (v := .agg #[.int .i64 k, .int .i64 (wkr k (shrv k n k' m))]) (by simp [results, Try.results66, go_sem, HV.out]) rfl ⟨rfl, (by repeat first | exact Ext.refl _ | assumption | refine Ext.drew ?_ | refine Ext.drewN ?_ _ | refine Ext.extBy ?_ _ | refine Ext.alloc ?_ _ | refine Ext.setCell ?_ (by simp; try omega) _ | (refine Ext.trans ?_ (by assumption)))⟩

set_option maxHeartbeats 1000000 in
theorem bvDiv_any (k n k' m : Int) (hm : I64 m) (w : World) :
    Calls Try.prog 59 #[.agg #[.int .i64 k, .int .i64 n], .agg #[.int .i64 k', .int .i64 m]] w fun e w' => e = .returned (.agg #[.int .i64 k, .int .i64 (wkr k (divv k n m))]) ∧ Ext w w' := by
  by_cases h0 : m = 0
  · subst h0
    go_enter Try.func59, Try.ntmps59
    go_wp2_with (first | (go_at_call 49; refine (bvOf_any _ _ _ _).mono ?_; rintro e w1 ⟨rfl, hx⟩; (first | (with_reducible obtain ⟨t2, rfl⟩ := Ext.tok2 hx) | (obtain ⟨t2, rfl⟩ := Ext.tok hx))))
    refine bodyPost_ret (v := .agg #[.int .i64 k, .int .i64 (wkr k (divv k n 0))]) (by simp [results, Try.results59, go_sem, divv]) rfl ⟨rfl, (by repeat first | exact Ext.refl _ | assumption | refine Ext.drew ?_ | refine Ext.drewN ?_ _ | refine Ext.extBy ?_ _ | refine Ext.alloc ?_ _ | refine Ext.setCell ?_ (by simp; try omega) _ | (refine Ext.trans ?_ (by assumption)))⟩
  have b0 : (m == 0) = false := by simpa using h0
  by_cases h9 : k = 9
  · subst h9
    by_cases hz : IntKind.u64.wrap m = 0
    · exact absurd (hm.nz hz) h0
    have HV := Lib.hid (show divv 9 n m = wrap64 (IntKind.u64.wrap ((IntKind.u64.wrap n).tdiv (IntKind.u64.wrap m))) from by unfold divv; rw [if_neg h0, if_pos rfl])
    go_enter Try.func59, Try.ntmps59
    go_wp2_with (first | (go_at_call 49; refine (bvOf_any _ _ _ _).mono ?_; rintro e w1 ⟨rfl, hx⟩; (first | (with_reducible obtain ⟨t2, rfl⟩ := Ext.tok2 hx) | (obtain ⟨t2, rfl⟩ := Ext.tok hx))))
    ((first | (with_reducible refine region_ext_tail2 9 (by kernel_rfl) (by kernel_rfl) ?_) | refine region_ext_tail 9 (by kernel_rfl) (by kernel_rfl) ?_); simp only [List.take_succ_cons, List.take_zero, List.drop_succ_cons, List.drop_zero]; (repeat (go_big_quiet_step (fail))); refine wpQuiet_nil ?_; rintro _ ⟨t1, rfl⟩)
    go_wp2_with (first | (go_at_call 49; refine (bvOf_any _ _ _ _).mono ?_; rintro e w1 ⟨rfl, hx⟩; (first | (with_reducible obtain ⟨t2, rfl⟩ := Ext.tok2 hx) | (obtain ⟨t2, rfl⟩ := Ext.tok hx))))
    refine bodyPost_ret (v := .agg #[.int .i64 9, .int .i64 (wkr 9 (divv 9 n m))]) (by simp [results, Try.results59, go_sem, HV.out]) rfl ⟨rfl, (by repeat first | exact Ext.refl _ | assumption | refine Ext.drew ?_ | refine Ext.drewN ?_ _ | refine Ext.extBy ?_ _ | refine Ext.alloc ?_ _ | refine Ext.setCell ?_ (by simp; try omega) _ | (refine Ext.trans ?_ (by assumption)))⟩
  have b9 : (k == 9) = false := by simpa using h9
  by_cases h1 : m = -1
  · subst h1
    have HV := Lib.hid (show divv k n (-1) = wrap64 (-n) from by unfold divv; rw [if_neg h0, if_neg h9, if_pos rfl])
    go_enter Try.func59, Try.ntmps59
    go_wp2_with (first | (go_at_call 49; refine (bvOf_any _ _ _ _).mono ?_; rintro e w1 ⟨rfl, hx⟩; (first | (with_reducible obtain ⟨t2, rfl⟩ := Ext.tok2 hx) | (obtain ⟨t2, rfl⟩ := Ext.tok hx))))
    refine bodyPost_ret (v := .agg #[.int .i64 k, .int .i64 (wkr k (divv k n (-1)))]) (by simp [results, Try.results59, go_sem, HV.out]) rfl ⟨rfl, (by repeat first | exact Ext.refl _ | assumption | refine Ext.drew ?_ | refine Ext.drewN ?_ _ | refine Ext.extBy ?_ _ | refine Ext.alloc ?_ _ | refine Ext.setCell ?_ (by simp; try omega) _ | (refine Ext.trans ?_ (by assumption)))⟩
  · have b1 : (m == -1) = false := by simpa using h1
    have HV := Lib.hid (show divv k n m = wrap64 (n.tdiv m) from by unfold divv; rw [if_neg h0, if_neg h9, if_neg h1])
    go_enter Try.func59, Try.ntmps59
    go_wp2_with (first | (go_at_call 49; refine (bvOf_any _ _ _ _).mono ?_; rintro e w1 ⟨rfl, hx⟩; (first | (with_reducible obtain ⟨t2, rfl⟩ := Ext.tok2 hx) | (obtain ⟨t2, rfl⟩ := Ext.tok hx))))
    ((first | (with_reducible refine region_ext_tail2 6 (by kernel_rfl) (by kernel_rfl) ?_) | refine region_ext_tail 6 (by kernel_rfl) (by kernel_rfl) ?_); simp only [List.take_succ_cons, List.take_zero, List.drop_succ_cons, List.drop_zero]; (repeat (go_big_quiet_step (fail))); refine wpQuiet_nil ?_; rintro _ ⟨t1, rfl⟩)
    go_wp2_with (first | (go_at_call 49; refine (bvOf_any _ _ _ _).mono ?_; rintro e w1 ⟨rfl, hx⟩; (first | (with_reducible obtain ⟨t2, rfl⟩ := Ext.tok2 hx) | (obtain ⟨t2, rfl⟩ := Ext.tok hx))))
    refine bodyPost_ret (v := .agg #[.int .i64 k, .int .i64 (wkr k (divv k n m))]) (by simp [results, Try.results59, go_sem, HV.out]) rfl ⟨rfl, (by repeat first | exact Ext.refl _ | assumption | refine Ext.drew ?_ | refine Ext.drewN ?_ _ | refine Ext.extBy ?_ _ | refine Ext.alloc ?_ _ | refine Ext.setCell ?_ (by simp; try omega) _ | (refine Ext.trans ?_ (by assumption)))⟩

set_option maxHeartbeats 1000000 in
theorem bvMod_any (k n k' m : Int) (hm : I64 m) (w : World) :
    Calls Try.prog 60 #[.agg #[.int .i64 k, .int .i64 n], .agg #[.int .i64 k', .int .i64 m]] w fun e w' => e = .returned (.agg #[.int .i64 k, .int .i64 (wkr k (modv k n m))]) ∧ Ext w w' := by
  by_cases h0 : m = 0
  · subst h0
    go_enter Try.func60, Try.ntmps60
    go_wp2_with (first | (go_at_call 49; refine (bvOf_any _ _ _ _).mono ?_; rintro e w1 ⟨rfl, hx⟩; (first | (with_reducible obtain ⟨t2, rfl⟩ := Ext.tok2 hx) | (obtain ⟨t2, rfl⟩ := Ext.tok hx))))
    refine bodyPost_ret (v := .agg #[.int .i64 k, .int .i64 (wkr k (modv k n 0))]) (by simp [results, Try.results60, go_sem, modv]) rfl ⟨rfl, (by repeat first | exact Ext.refl _ | assumption | refine Ext.drew ?_ | refine Ext.drewN ?_ _ | refine Ext.extBy ?_ _ | refine Ext.alloc ?_ _ | refine Ext.setCell ?_ (by simp; try omega) _ | (refine Ext.trans ?_ (by assumption)))⟩
  have b0 : (m == 0) = false := by simpa using h0
  by_cases h9 : k = 9
  · subst h9
    by_cases hz : IntKind.u64.wrap m = 0
    · exact absurd (hm.nz hz) h0
    have HV := Lib.hid (show modv 9 n m = wrap64 ((IntKind.u64.wrap n).tmod (IntKind.u64.wrap m)) from by unfold modv; rw [if_neg h0, if_pos rfl])
    go_enter Try.func60, Try.ntmps60
    go_wp2_with (first | (go_at_call 49; refine (bvOf_any _ _ _ _).mono ?_; rintro e w1 ⟨rfl, hx⟩; (first | (with_reducible obtain ⟨t2, rfl⟩ := Ext.tok2 hx) | (obtain ⟨t2, rfl⟩ := Ext.tok hx))))
    ((first | (with_reducible refine region_ext_tail2 9 (by kernel_rfl) (by kernel_rfl) ?_) | refine region_ext_tail 9 (by kernel_rfl) (by kernel_rfl) ?_); simp only [List.take_succ_cons, List.take_zero, List.drop_succ_cons, List.drop_zero]; (repeat (go_big_quiet_step (fail))); refine wpQuiet_nil ?_; rintro _ ⟨t1, rfl⟩)
    go_wp2_with (first | (go_at_call 49; refine (bvOf_any _ _ _ _).mono ?_; rintro e w1 ⟨rfl, hx⟩; (first | (with_reducible obtain ⟨t2, rfl⟩ := Ext.tok2 hx) | (obtain ⟨t2, rfl⟩ := Ext.tok hx))))
    refine bodyPost_ret (v := .agg #[.int .i64 9, .int .i64 (wkr 9 (modv 9 n m))]) (by simp [results, Try.results60, go_sem, HV.out]) rfl ⟨rfl, (by repeat first | exact Ext.refl _ | assumption | refine Ext.drew ?_ | refine Ext.drewN ?_ _ | refine Ext.extBy ?_ _ | refine Ext.alloc ?_ _ | refine Ext.setCell ?_ (by simp; try omega) _ | (refine Ext.trans ?_ (by assumption)))⟩
  have b9 : (k == 9) = false := by simpa using h9
  by_cases h1 : m = -1
  · subst h1
    have HV := Lib.hid (show modv k n (-1) = 0 from by unfold modv; rw [if_neg h0, if_neg h9, if_pos rfl])
    go_enter Try.func60, Try.ntmps60
    go_wp2_with (first | (go_at_call 49; refine (bvOf_any _ _ _ _).mono ?_; rintro e w1 ⟨rfl, hx⟩; (first | (with_reducible obtain ⟨t2, rfl⟩ := Ext.tok2 hx) | (obtain ⟨t2, rfl⟩ := Ext.tok hx))))
    refine bodyPost_ret (v := .agg #[.int .i64 k, .int .i64 (wkr k (modv k n (-1)))]) (by simp [results, Try.results60, go_sem, HV.out]) rfl ⟨rfl, (by repeat first | exact Ext.refl _ | assumption | refine Ext.drew ?_ | refine Ext.drewN ?_ _ | refine Ext.extBy ?_ _ | refine Ext.alloc ?_ _ | refine Ext.setCell ?_ (by simp; try omega) _ | (refine Ext.trans ?_ (by assumption)))⟩
  · have b1 : (m == -1) = false := by simpa using h1
    have HV := Lib.hid (show modv k n m = n.tmod m from by unfold modv; rw [if_neg h0, if_neg h9, if_neg h1])
    go_enter Try.func60, Try.ntmps60
    go_wp2_with (first | (go_at_call 49; refine (bvOf_any _ _ _ _).mono ?_; rintro e w1 ⟨rfl, hx⟩; (first | (with_reducible obtain ⟨t2, rfl⟩ := Ext.tok2 hx) | (obtain ⟨t2, rfl⟩ := Ext.tok hx))))
    ((first | (with_reducible refine region_ext_tail2 6 (by kernel_rfl) (by kernel_rfl) ?_) | refine region_ext_tail 6 (by kernel_rfl) (by kernel_rfl) ?_); simp only [List.take_succ_cons, List.take_zero, List.drop_succ_cons, List.drop_zero]; (repeat (go_big_quiet_step (fail))); refine wpQuiet_nil ?_; rintro _ ⟨t1, rfl⟩)
    go_wp2_with (first | (go_at_call 49; refine (bvOf_any _ _ _ _).mono ?_; rintro e w1 ⟨rfl, hx⟩; (first | (with_reducible obtain ⟨t2, rfl⟩ := Ext.tok2 hx) | (obtain ⟨t2, rfl⟩ := Ext.tok hx))))
    refine bodyPost_ret (v := .agg #[.int .i64 k, .int .i64 (wkr k (modv k n m))]) (by simp [results, Try.results60, go_sem, HV.out]) rfl ⟨rfl, (by repeat first | exact Ext.refl _ | assumption | refine Ext.drew ?_ | refine Ext.drewN ?_ _ | refine Ext.extBy ?_ _ | refine Ext.alloc ?_ _ | refine Ext.setCell ?_ (by simp; try omega) _ | (refine Ext.trans ?_ (by assumption)))⟩

theorem bvBelow_any (k n k' m : Int) (w : World) :
    Calls Try.prog 75 #[.agg #[.int .i64 k, .int .i64 n], .agg #[.int .i64 k', .int .i64 m]] w fun e w' => e = .returned (.bool (blw k n m)) ∧ Ext w w' := by
  go_enter Try.func75, Try.ntmps75
  go_wp2
  all_goals go_ret
  all_goals refine ⟨?_, (((Ext.refl _).alloc _).alloc _)⟩
  all_goals simp_all [blw]

theorem bvEq_any (k n k' m : Int) (w : World) :
    Calls Try.prog 67 #[.agg #[.int .i64 k, .int .i64 n], .agg #[.int .i64 k', .int .i64 m]] w fun e w' => e = .returned (.agg #[.int .i64 1, .int .i64 (tru (n == m))]) ∧ Ext w w' := by
  go_enter Try.func67, Try.ntmps67
  go_wp2_with (first | (go_at_call 56; refine (bvTruth_any _ _).mono ?_; rintro e w1 ⟨rfl, hx⟩; (first | (with_reducible obtain ⟨t2, rfl⟩ := Ext.tok2 hx) | (obtain ⟨t2, rfl⟩ := Ext.tok hx))))
  exact bodyPost_ret (v := .agg #[.int .i64 1, .int .i64 (tru (n == m))]) (by simp [results, Try.results67, go_sem]) rfl ⟨rfl, (by repeat first | exact Ext.refl _ | assumption | refine Ext.drew ?_ | refine Ext.drewN ?_ _ | refine Ext.extBy ?_ _ | refine Ext.alloc ?_ _ | refine Ext.setCell ?_ (by simp; try omega) _ | (refine Ext.trans ?_ (by assumption)))⟩

theorem bvNe_any (k n k' m : Int) (w : World) :
    Calls Try.prog 68 #[.agg #[.int .i64 k, .int .i64 n], .agg #[.int .i64 k', .int .i64 m]] w fun e w' => e = .returned (.agg #[.int .i64 1, .int .i64 (tru (n != m))]) ∧ Ext w w' := by
  go_enter Try.func68, Try.ntmps68
  go_wp2_with (first | (go_at_call 56; refine (bvTruth_any _ _).mono ?_; rintro e w1 ⟨rfl, hx⟩; (first | (with_reducible obtain ⟨t2, rfl⟩ := Ext.tok2 hx) | (obtain ⟨t2, rfl⟩ := Ext.tok hx))))
  exact bodyPost_ret (v := .agg #[.int .i64 1, .int .i64 (tru (n != m))]) (by simp [results, Try.results68, go_sem]) rfl ⟨rfl, (by repeat first | exact Ext.refl _ | assumption | refine Ext.drew ?_ | refine Ext.drewN ?_ _ | refine Ext.extBy ?_ _ | refine Ext.alloc ?_ _ | refine Ext.setCell ?_ (by simp; try omega) _ | (refine Ext.trans ?_ (by assumption)))⟩

theorem bvLt_any (k n k' m : Int) (w : World) :
    Calls Try.prog 69 #[.agg #[.int .i64 k, .int .i64 n], .agg #[.int .i64 k', .int .i64 m]] w fun e w' => e = .returned (.agg #[.int .i64 1, .int .i64 (tru (blw k n m))]) ∧ Ext w w' := by
  go_enter Try.func69, Try.ntmps69
  go_wp2_with (first | (go_at_call 56; refine (bvTruth_any _ _).mono ?_; rintro e w1 ⟨rfl, hx⟩; (first | (with_reducible obtain ⟨t2, rfl⟩ := Ext.tok2 hx) | (obtain ⟨t2, rfl⟩ := Ext.tok hx))) | (go_at_call 75; refine (bvBelow_any _ _ _ _ _).mono ?_; rintro e w1 ⟨rfl, hx⟩; (first | (with_reducible obtain ⟨t1, rfl⟩ := Ext.tok2 hx) | (obtain ⟨t1, rfl⟩ := Ext.tok hx))))
  exact bodyPost_ret (v := .agg #[.int .i64 1, .int .i64 (tru (blw k n m))]) (by simp [results, Try.results69, go_sem]) rfl ⟨rfl, (by repeat first | exact Ext.refl _ | assumption | refine Ext.drew ?_ | refine Ext.drewN ?_ _ | refine Ext.extBy ?_ _ | refine Ext.alloc ?_ _ | refine Ext.setCell ?_ (by simp; try omega) _ | (refine Ext.trans ?_ (by assumption)))⟩

theorem bvLe_any (k n k' m : Int) (w : World) :
    Calls Try.prog 70 #[.agg #[.int .i64 k, .int .i64 n], .agg #[.int .i64 k', .int .i64 m]] w fun e w' => e = .returned (.agg #[.int .i64 1, .int .i64 (tru (!(blw k' m n)))]) ∧ Ext w w' := by
  go_enter Try.func70, Try.ntmps70
  go_wp2_with (first | (go_at_call 56; refine (bvTruth_any _ _).mono ?_; rintro e w1 ⟨rfl, hx⟩; (first | (with_reducible obtain ⟨t2, rfl⟩ := Ext.tok2 hx) | (obtain ⟨t2, rfl⟩ := Ext.tok hx))) | (go_at_call 75; refine (bvBelow_any _ _ _ _ _).mono ?_; rintro e w1 ⟨rfl, hx⟩; (first | (with_reducible obtain ⟨t1, rfl⟩ := Ext.tok2 hx) | (obtain ⟨t1, rfl⟩ := Ext.tok hx))))
  exact bodyPost_ret (v := .agg #[.int .i64 1, .int .i64 (tru (!(blw k' m n)))]) (by simp [results, Try.results70, go_sem]) rfl ⟨rfl, (by repeat first | exact Ext.refl _ | assumption | refine Ext.drew ?_ | refine Ext.drewN ?_ _ | refine Ext.extBy ?_ _ | refine Ext.alloc ?_ _ | refine Ext.setCell ?_ (by simp; try omega) _ | (refine Ext.trans ?_ (by assumption)))⟩

theorem bvGt_any (k n k' m : Int) (w : World) :
    Calls Try.prog 71 #[.agg #[.int .i64 k, .int .i64 n], .agg #[.int .i64 k', .int .i64 m]] w fun e w' => e = .returned (.agg #[.int .i64 1, .int .i64 (tru (blw k' m n))]) ∧ Ext w w' := by
  go_enter Try.func71, Try.ntmps71
  go_wp2_with (first | (go_at_call 56; refine (bvTruth_any _ _).mono ?_; rintro e w1 ⟨rfl, hx⟩; (first | (with_reducible obtain ⟨t2, rfl⟩ := Ext.tok2 hx) | (obtain ⟨t2, rfl⟩ := Ext.tok hx))) | (go_at_call 75; refine (bvBelow_any _ _ _ _ _).mono ?_; rintro e w1 ⟨rfl, hx⟩; (first | (with_reducible obtain ⟨t1, rfl⟩ := Ext.tok2 hx) | (obtain ⟨t1, rfl⟩ := Ext.tok hx))))
  exact bodyPost_ret (v := .agg #[.int .i64 1, .int .i64 (tru (blw k' m n))]) (by simp [results, Try.results71, go_sem]) rfl ⟨rfl, (by repeat first | exact Ext.refl _ | assumption | refine Ext.drew ?_ | refine Ext.drewN ?_ _ | refine Ext.extBy ?_ _ | refine Ext.alloc ?_ _ | refine Ext.setCell ?_ (by simp; try omega) _ | (refine Ext.trans ?_ (by assumption)))⟩

theorem bvGe_any (k n k' m : Int) (w : World) :
    Calls Try.prog 72 #[.agg #[.int .i64 k, .int .i64 n], .agg #[.int .i64 k', .int .i64 m]] w fun e w' => e = .returned (.agg #[.int .i64 1, .int .i64 (tru (!(blw k n m)))]) ∧ Ext w w' := by
  go_enter Try.func72, Try.ntmps72
  go_wp2_with (first | (go_at_call 56; refine (bvTruth_any _ _).mono ?_; rintro e w1 ⟨rfl, hx⟩; (first | (with_reducible obtain ⟨t2, rfl⟩ := Ext.tok2 hx) | (obtain ⟨t2, rfl⟩ := Ext.tok hx))) | (go_at_call 75; refine (bvBelow_any _ _ _ _ _).mono ?_; rintro e w1 ⟨rfl, hx⟩; (first | (with_reducible obtain ⟨t1, rfl⟩ := Ext.tok2 hx) | (obtain ⟨t1, rfl⟩ := Ext.tok hx))))
  exact bodyPost_ret (v := .agg #[.int .i64 1, .int .i64 (tru (!(blw k n m)))]) (by simp [results, Try.results72, go_sem]) rfl ⟨rfl, (by repeat first | exact Ext.refl _ | assumption | refine Ext.drew ?_ | refine Ext.drewN ?_ _ | refine Ext.extBy ?_ _ | refine Ext.alloc ?_ _ | refine Ext.setCell ?_ (by simp; try omega) _ | (refine Ext.trans ?_ (by assumption)))⟩

theorem bvImp_any (k n k' m : Int) (w : World) :
    Calls Try.prog 64 #[.agg #[.int .i64 k, .int .i64 n], .agg #[.int .i64 k', .int .i64 m]] w fun e w' => e = .returned (.agg #[.int .i64 1, .int .i64 (tru (n == 0 || m != 0))]) ∧ Ext w w' := by
  go_enter Try.func64, Try.ntmps64
  go_wp2_with (first | (go_at_call 56; refine (bvTruth_any _ _).mono ?_; rintro e w1 ⟨rfl, hx⟩; (first | (with_reducible obtain ⟨t2, rfl⟩ := Ext.tok2 hx) | (obtain ⟨t2, rfl⟩ := Ext.tok hx))))
  all_goals refine bodyPost_ret (v := .agg #[.int .i64 1, .int .i64 (tru (n == 0 || m != 0))]) (by simp [results, Try.results64, go_sem, *]) rfl ⟨rfl, (by repeat first | exact Ext.refl _ | assumption | refine Ext.drew ?_ | refine Ext.drewN ?_ _ | refine Ext.extBy ?_ _ | refine Ext.alloc ?_ _ | refine Ext.setCell ?_ (by simp; try omega) _ | (refine Ext.trans ?_ (by assumption)))⟩

end Go.Proofs.Ytkjgghbdpmkmoaa
