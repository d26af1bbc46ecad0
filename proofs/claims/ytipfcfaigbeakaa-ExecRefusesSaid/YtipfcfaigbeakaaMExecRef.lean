/-
  The law on what the machine refuses: its walk.
  No condition.
-/
import Derived.Test.YtipfcfaigbeakaaJExecU
namespace Go.Proofs.Ytipfcfaigbeakaa
open Go.RowKit
set_option linter.unusedSimpArgs false
set_option linter.unusedVariables false
set_option maxRecDepth 100000

set_option maxHeartbeats 4000000 in
theorem refuses_one (x y : Int) (hx : I64 x) (h : ¬ (-128 ≤ x ∧ x ≤ 127)) (w : World) : Calls Try.prog 11 #[.int .i64 x, .int .i64 y, .bool false] w fun e w' => e = .returned (.bool true) ∧ Ext w w' := by
  have HT := Lib.hid (tick_bad h)
  have HX := Lib.hid hx
  have hor : x < -128 ∨ 127 < x := by omega
  clear hx h
  rcases hor with h1 | h1
  all_goals
    go_enter Try.func11, Try.ntmps11
    go_upto_region 2 with (go_at_call 26; refine (live21 w).mono ?_; rintro e w0 ⟨rfl, hx0⟩)
    go_upto_region 3 with (first | (go_at_call 20; refine (small_any _).mono ?_; rintro e w1 ⟨rfl, hx1, hs1, ha1⟩) | (go_at_call 28; refine (new_good smallV _ _ _ w1 ha1.code chk_small).mono ?_; intro e w2 hm; obtain ⟨g, S, rfl, hmi, hx2⟩ := hm.mi cells_small))
    have hxx : Ext w w2 := (hx0.trans hx1).trans hx2
    have hB : w.heap.size ≤ w1.heap.size := (hx0.trans hx1).size
    have HTI := Lib.hid (stick_zero HT.out HX.out hmi)
    have HMI := Lib.hid hmi
    clear hm ha1 hs1 hx1 hx2 hx0 hmi
    go_upto_region 9 with (first | (go_at_call 32; refine (num21_any _ _).mono ?_; rintro e w5 ⟨rfl, rfl⟩) | (go_at_call 30; refine HTI.out.mono ?_; rintro e w3 ⟨a1, a2, S3, rfl, hmi3, hk3⟩))
    have hx3 : Ext w w3 := hk3.ext (hxx.alloc _) (fun k hk => Nat.le_trans hB (HMI.out.lt k hk).1)
    have HTN := Lib.hid (stick_nil hmi3)
    have HM3 := Lib.hid hmi3
    clear hmi3
    go_upto_region 10 with (go_at_call 30; refine HTN.out.mono ?_; rintro e w4 ⟨b1, b2, S4, rfl, hmi4, hk4⟩)
    have hx4 : Ext w w4 := hk4.ext hx3 (fun k hk => Nat.le_trans hB (HM3.out.lt k hk).1)
    go_wp2_with (first | (go_at_call 32; refine (num21_any _ _).mono ?_; rintro e w5 ⟨rfl, rfl⟩))
    go_ret
    exact ⟨rfl, hx4⟩
set_option maxHeartbeats 4000000 in
theorem refuses_more (x y : Int) (hx : I64 x) (hy : I64 y) (w : World) : Calls Try.prog 11 #[.int .i64 x, .int .i64 y, .bool true] w fun e w' => e = .returned (.bool true) ∧ Ext w w' := by
  have HX : Hid (∀ n ∈ [x, y], I64 n) := Lib.hid (by
    intro n hn
    simp only [List.mem_cons, List.not_mem_nil, or_false] at hn
    rcases hn with rfl | rfl <;> assumption)
  clear hx hy
  go_enter Try.func11, Try.ntmps11
  go_upto_region 2 with (go_at_call 26; refine (live21 w).mono ?_; rintro e w0 ⟨rfl, hx0⟩)
  go_upto_region 3 with (first | (go_at_call 20; refine (small_any _).mono ?_; rintro e w1 ⟨rfl, hx1, hs1, ha1⟩) | (go_at_call 28; refine (new_good smallV _ _ _ w1 ha1.code chk_small).mono ?_; intro e w2 hm; obtain ⟨g, S, rfl, hmi, hx2⟩ := hm.mi cells_small))
  have hxx : Ext w w2 := (hx0.trans hx1).trans hx2
  have hB : w.heap.size ≤ w1.heap.size := (hx0.trans hx1).size
  have hti := stick_two HX.out (hmi.ext ((Ext.refl w2).alloc (.cells #[.int .i64 x] 3)))
  rw [World.size_alloc] at hti
  have HTI := Lib.hid hti
  clear hti
  have HMI := Lib.hid hmi
  clear hm ha1 hs1 hx1 hx2 hx0 hmi
  go_upto_region 9 with (first | (go_at_call 32; refine (num21_any _ _).mono ?_; rintro e w5 ⟨rfl, rfl⟩) | (go_at_call 30; refine HTI.out.mono ?_; rintro e w3 ⟨a1, a2, S3, rfl, hmi3, hk3⟩))
  have hx3 : Ext w w3 := hk3.ext ((hxx.alloc _).alloc _) (fun k hk => Nat.le_trans hB (HMI.out.lt k hk).1)
  have HTN := Lib.hid (stick_nil hmi3)
  have HM3 := Lib.hid hmi3
  clear hmi3
  go_upto_region 10 with (go_at_call 30; refine HTN.out.mono ?_; rintro e w4 ⟨b1, b2, S4, rfl, hmi4, hk4⟩)
  have hx4 : Ext w w4 := hk4.ext hx3 (fun k hk => Nat.le_trans hB (HM3.out.lt k hk).1)
  go_wp2_with (first | (go_at_call 32; refine (num21_any _ _).mono ?_; rintro e w5 ⟨rfl, rfl⟩))
  go_ret
  exact ⟨rfl, hx4⟩
set_option maxHeartbeats 4000000 in
theorem refuses_ok (x y : Int) (hx : I64 x) (h : -128 ≤ x ∧ x ≤ 127) (w : World) : Calls Try.prog 11 #[.int .i64 x, .int .i64 y, .bool false] w fun e w' => e = .returned (.bool true) ∧ Ext w w' := by
  have ht := tick_ok h
  rw [show wrap64 (x + 1) = x + 1 from wrap64_id (by omega) (by omega)] at ht
  have HT := Lib.hid ht
  have HX := Lib.hid hx
  obtain ⟨h1, h2⟩ := h
  clear hx ht
  go_enter Try.func11, Try.ntmps11
  go_upto_region 2 with (go_at_call 26; refine (live21 w).mono ?_; rintro e w0 ⟨rfl, hx0⟩)
  go_upto_region 3 with (first | (go_at_call 20; refine (small_any _).mono ?_; rintro e w1 ⟨rfl, hx1, hs1, ha1⟩) | (go_at_call 28; refine (new_good smallV _ _ _ w1 ha1.code chk_small).mono ?_; intro e w2 hm; obtain ⟨g, S, rfl, hmi, hx2⟩ := hm.mi cells_small))
  have hxx : Ext w w2 := (hx0.trans hx1).trans hx2
  have hB : w.heap.size ≤ w1.heap.size := (hx0.trans hx1).size
  have HTI := Lib.hid (stick_one HT.out (ni := 5) rfl HX.out hmi)
  have HMI := Lib.hid hmi
  clear hm ha1 hs1 hx1 hx2 hx0 hmi
  go_upto_region 9 with (first | (go_at_call 32; refine (num21_any _ _).mono ?_; rintro e w5 ⟨rfl, rfl⟩) | (go_at_call 30; refine HTI.out.mono ?_; rintro e w3 ⟨ba, ca, S3, rfl, hca1, hca2, hmi3, hk3, hcell3, hv3⟩))
  have hx3 : Ext w w3 := hk3.ext (hxx.alloc _) (fun k hk => Nat.le_trans hB (HMI.out.lt k hk).1)
  have HTN := Lib.hid (stick_nil hmi3)
  have HM3 := Lib.hid hmi3
  clear hmi3
  go_upto_region 10 with (go_at_call 30; refine HTN.out.mono ?_; rintro e w4 ⟨b1, b2, S4, rfl, hmi4, hk4⟩)
  have hx4 : Ext w w4 := hk4.ext hx3 (fun k hk => Nat.le_trans hB (HM3.out.lt k hk).1)
  have hcell3' := hk4.cell hv3 hcell3
  clear hcell3 hk4 hk3
  go_wp2_with (first | (go_at_call 32; refine (num21_any _ _).mono ?_; rintro e w5 ⟨rfl, rfl⟩))
  go_ret
  exact ⟨rfl, hx4⟩
theorem execRefuses_any (x y : Int) (hx : I64 x) (hy : I64 y) (more : Bool) (w : World) : Calls Try.prog 11 #[.int .i64 x, .int .i64 y, .bool more] w fun e w' => e = .returned (.bool true) ∧ Ext w w' := by
  cases more
  · by_cases h : -128 ≤ x ∧ x ≤ 127
    · exact refuses_ok x y hx h w
    · exact refuses_one x y hx h w
  · exact refuses_more x y hx hy w
end Go.Proofs.Ytipfcfaigbeakaa
