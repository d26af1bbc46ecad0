/-
  The law on what can be wrong with step code: its walk, some of its cases.
  No condition.
  The law on what can be wrong with step code: its walk, some of its cases.
  No condition.
  The law on what can be wrong with step code: its walk, some of its cases.
  No condition.
  A region that draws its order and ends in one operation that waits for all others: its head walked by hand, a condition on the world kept behind each operation of the head alone.
  No condition.
  The law on what can be wrong with step code: its walk, some of its cases.
  No condition.
  The law on what can be wrong with step code: its walk, some of its cases.
  No condition.
  The law on what can be wrong with step code: whatever the number, it returns true.
  No condition.
-/
import Derived.Test.YtkjgghbdpmkmoaaJoB
import Derived.Test.YtkjgghbdpmkmoaaKit
import Derived.Deep.RegionHeld3

namespace Go.Proofs.Ytkjgghbdpmkmoaa
open Go.RowKit Go.Maps
set_option linter.unusedSimpArgs false
set_option linter.unusedVariables false
set_option maxRecDepth 100000

set_option maxHeartbeats 8000000 in
theorem wrong_0 (w : World) : Calls Try.prog 3 #[.int .i64 ((0 : Nat) : Int)] w fun e w' => e = .returned (.bool true) ∧ Hid (Ext w w') := by
  obtain ⟨Q, hQ⟩ : ∃ Q, Q = fun e w' => e = Ending.returned (.bool true) ∧ Hid (Ext w w') := ⟨_, rfl⟩
  rw [← hQ]
  have HQ := Lib.hid hQ
  obtain ⟨x, hx⟩ : ∃ x, x = wantS 0 := ⟨_, rfl⟩
  have HA : Hid (AskS 0 x) := Lib.hid (by rw [hx]; exact ask_allS ⟨0, by omega⟩)
  have HX := Lib.hid hx
  clear hQ hx
  go_enter Try.func3, Try.ntmps3
  go_upto_region 6 with (first | (go_at_call 5; refine (alive17_any _).mono ?_; rintro e w1 ⟨rfl, H1⟩) | (go_at_call 6; refine (small_any _).mono ?_; rintro e w2 ⟨g, rfl, H2⟩) | fail)
  have HE : Hid (Ext w (w2.alloc (.cells (smA g) 28))) := Lib.hid (((H1.out.alloc _).trans H2.out.1).alloc _)
  have hbx : BoxV w2.heap.size (smA g).toList (w2.alloc (.cells (smA g) 28)) := BoxV.of_row (heap_alloc_last w2 _)
  have hlk : LikeS g smCs (smBs g) (w2.alloc (.cells (smA g) 28)) := H2.out.2.2.ext ((Ext.refl w2).alloc _)
  have htab : (w2.alloc (.cells (smA g) 28)).cell? ⟨w1.heap.size, 0, none⟩ = some (.int .i64 x) := by
    rw [HX.out]
    exact (H2.out.1.alloc _).cell (sm_want _ _ _ (heap_alloc_last w1 _) ⟨0, by omega⟩)
  have hgX : g + 7 < w2.heap.size := (Array.getElem?_eq_some_iff.1 H2.out.2.2.body).1
  have hTg : w1.heap.size < g := by
    have := H2.out.2.1
    simp at this
    omega
  have hwT := H1.out.size
  generalize (w2.alloc (.cells (smA g) 28)) = wb at HE hbx hlk htab ⊢
  generalize w2.heap.size = X at hbx hgX ⊢
  generalize w1.heap.size = T at htab hTg hwT ⊢
  have HW : Hid (∀ k ∈ [X, g + 2, g + 7], w.heap.size ≤ k ∧ T ≠ k) := Lib.hid (fun k hk => by
    simp only [List.mem_cons, List.not_mem_nil, or_false] at hk
    rcases hk with rfl | rfl | rfl <;> omega)
  have HLK := Lib.hid hlk
  have HBX := Lib.hid hbx
  have HT := Lib.hid htab
  have x0 := hbx.cells 0 _ rfl
  have x1 := hbx.cells 1 _ rfl
  have x2 := hbx.cells 2 _ rfl
  have x3 := hbx.cells 3 _ rfl
  have x4 := hbx.cells 4 _ rfl
  have xl := hbx.lt
  have xf := hbx.fz

  have n1 : ¬ (X = g + 7) := by omega
  have n2 : ¬ (g + 7 = X) := by omega
  have n3 : ¬ (X = g + 2) := by omega
  have n4 : ¬ (g + 2 = X) := by omega
  clear hlk hbx htab H1 H2 hwT
  have HKB : Hid (Kb [X, g + 2, g + 7] wb (wb)) := Lib.hid (Kb.refl _ _)
  go_upto_region 34 with (first | (go_at_call 8; refine (HA.out _ (smX g) (HLK.out.small)).mono ?_; rintro e3 w3 ⟨rfl, H3⟩) | fail)
  have hfin : Ext w w3 := (HKB.out.ext HE.out (fun k hk => (HW.out k hk).1)).trans H3.out
  have t3 := H3.out.cell (HKB.out.cell (S := [X, g + 2, g + 7]) (fun hm => (HW.out T hm).2 rfl) HT.out)
  have tl := World.block_lt_of_cell? _ _ t3
  clear x0 x1 x2 x3 x4 xl xf HKB H3 HA HLK HBX HE HW
  go_wp2_with (first | (refine region_drew (by kernel_rfl) (by kernel_rfl) ?_; (repeat (go_big_quiet_step (exact in_drew (num17_any _ _)))); refine wpQuiet_nil ?_; rintro _ ⟨nq, rfl⟩) | fail)
  rw [HQ.out]
  exact ⟨rfl, Lib.hid (by repeat first | exact Ext.refl _ | assumption | refine Ext.drew ?_ | refine Ext.drewN ?_ _ | refine Ext.extBy ?_ _ | refine Ext.alloc ?_ _ | refine Ext.setCell ?_ (by simp; try omega) _ | (refine Ext.trans ?_ (by assumption)))⟩
set_option maxHeartbeats 8000000 in
theorem wrong_3 (w : World) : Calls Try.prog 3 #[.int .i64 ((3 : Nat) : Int)] w fun e w' => e = .returned (.bool true) ∧ Hid (Ext w w') := by
  obtain ⟨Q, hQ⟩ : ∃ Q, Q = fun e w' => e = Ending.returned (.bool true) ∧ Hid (Ext w w') := ⟨_, rfl⟩
  rw [← hQ]
  have HQ := Lib.hid hQ
  obtain ⟨x, hx⟩ : ∃ x, x = wantS 3 := ⟨_, rfl⟩
  have HA : Hid (AskS 3 x) := Lib.hid (by rw [hx]; exact ask_allS ⟨3, by omega⟩)
  have HX := Lib.hid hx
  clear hQ hx
  go_enter Try.func3, Try.ntmps3
  go_upto_region 6 with (first | (go_at_call 5; refine (alive17_any _).mono ?_; rintro e w1 ⟨rfl, H1⟩) | (go_at_call 6; refine (small_any _).mono ?_; rintro e w2 ⟨g, rfl, H2⟩) | fail)
  have HE : Hid (Ext w (w2.alloc (.cells (smA g) 28))) := Lib.hid (((H1.out.alloc _).trans H2.out.1).alloc _)
  have hbx : BoxV w2.heap.size (smA g).toList (w2.alloc (.cells (smA g) 28)) := BoxV.of_row (heap_alloc_last w2 _)
  have hlk : LikeS g smCs (smBs g) (w2.alloc (.cells (smA g) 28)) := H2.out.2.2.ext ((Ext.refl w2).alloc _)
  have htab : (w2.alloc (.cells (smA g) 28)).cell? ⟨w1.heap.size, 3, none⟩ = some (.int .i64 x) := by
    rw [HX.out]
    exact (H2.out.1.alloc _).cell (sm_want _ _ _ (heap_alloc_last w1 _) ⟨3, by omega⟩)
  have hgX : g + 7 < w2.heap.size := (Array.getElem?_eq_some_iff.1 H2.out.2.2.body).1
  have hTg : w1.heap.size < g := by
    have := H2.out.2.1
    simp at this
    omega
  have hwT := H1.out.size
  generalize (w2.alloc (.cells (smA g) 28)) = wb at HE hbx hlk htab ⊢
  generalize w2.heap.size = X at hbx hgX ⊢
  generalize w1.heap.size = T at htab hTg hwT ⊢
  have HW : Hid (∀ k ∈ [X, g + 2, g + 7], w.heap.size ≤ k ∧ T ≠ k) := Lib.hid (fun k hk => by
    simp only [List.mem_cons, List.not_mem_nil, or_false] at hk
    rcases hk with rfl | rfl | rfl <;> omega)
  have HLK := Lib.hid hlk
  have HBX := Lib.hid hbx
  have HT := Lib.hid htab
  have x0 := hbx.cells 0 _ rfl
  have x1 := hbx.cells 1 _ rfl
  have x2 := hbx.cells 2 _ rfl
  have x3 := hbx.cells 3 _ rfl
  have x4 := hbx.cells 4 _ rfl
  have xl := hbx.lt
  have xf := hbx.fz
  have hbb : BoxV (g + 7) (smBs g).toList wb := BoxV.of_row hlk.body
  have bl := hbb.lt
  have bf := hbb.fz
  have b0 := hbb.cells 0 _ rfl
  clear hbb
  have n1 : ¬ (X = g + 7) := by omega
  have n2 : ¬ (g + 7 = X) := by omega
  have n3 : ¬ (X = g + 2) := by omega
  have n4 : ¬ (g + 2 = X) := by omega
  clear hlk hbx htab H1 H2 hwT
  have HKB : Hid (Kb [X, g + 2, g + 7] wb (wb.setCell ⟨g + 7, 0, none⟩ (.int .i64 4))) := Lib.hid (Kb.set _ _ _ (by simp) _)
  go_upto_region 34 with (first | (go_at_call 8; refine (HA.out _ (smX g) ((HLK.out.bset 0 (.int .i64 4)).two rfl)).mono ?_; rintro e3 w3 ⟨rfl, H3⟩) | fail)
  have hfin : Ext w w3 := (HKB.out.ext HE.out (fun k hk => (HW.out k hk).1)).trans H3.out
  have t3 := H3.out.cell (HKB.out.cell (S := [X, g + 2, g + 7]) (fun hm => (HW.out T hm).2 rfl) HT.out)
  have tl := World.block_lt_of_cell? _ _ t3
  clear x0 x1 x2 x3 x4 xl xf HKB H3 HA HLK HBX HE HW b0 bl bf
  go_wp2_with (first | (refine region_drew (by kernel_rfl) (by kernel_rfl) ?_; (repeat (go_big_quiet_step (exact in_drew (num17_any _ _)))); refine wpQuiet_nil ?_; rintro _ ⟨nq, rfl⟩) | fail)
  rw [HQ.out]
  exact ⟨rfl, Lib.hid (by repeat first | exact Ext.refl _ | assumption | refine Ext.drew ?_ | refine Ext.drewN ?_ _ | refine Ext.extBy ?_ _ | refine Ext.alloc ?_ _ | refine Ext.setCell ?_ (by simp; try omega) _ | (refine Ext.trans ?_ (by assumption)))⟩
set_option maxHeartbeats 8000000 in
theorem wrong_7 (w : World) : Calls Try.prog 3 #[.int .i64 ((7 : Nat) : Int)] w fun e w' => e = .returned (.bool true) ∧ Hid (Ext w w') := by
  obtain ⟨Q, hQ⟩ : ∃ Q, Q = fun e w' => e = Ending.returned (.bool true) ∧ Hid (Ext w w') := ⟨_, rfl⟩
  rw [← hQ]
  have HQ := Lib.hid hQ
  obtain ⟨x, hx⟩ : ∃ x, x = wantS 7 := ⟨_, rfl⟩
  have HA : Hid (AskS 7 x) := Lib.hid (by rw [hx]; exact ask_allS ⟨7, by omega⟩)
  have HX := Lib.hid hx
  clear hQ hx
  go_enter Try.func3, Try.ntmps3
  go_upto_region 6 with (first | (go_at_call 5; refine (alive17_any _).mono ?_; rintro e w1 ⟨rfl, H1⟩) | (go_at_call 6; refine (small_any _).mono ?_; rintro e w2 ⟨g, rfl, H2⟩) | fail)
  have HE : Hid (Ext w (w2.alloc (.cells (smA g) 28))) := Lib.hid (((H1.out.alloc _).trans H2.out.1).alloc _)
  have hbx : BoxV w2.heap.size (smA g).toList (w2.alloc (.cells (smA g) 28)) := BoxV.of_row (heap_alloc_last w2 _)
  have hlk : LikeS g smCs (smBs g) (w2.alloc (.cells (smA g) 28)) := H2.out.2.2.ext ((Ext.refl w2).alloc _)
  have htab : (w2.alloc (.cells (smA g) 28)).cell? ⟨w1.heap.size, 7, none⟩ = some (.int .i64 x) := by
    rw [HX.out]
    exact (H2.out.1.alloc _).cell (sm_want _ _ _ (heap_alloc_last w1 _) ⟨7, by omega⟩)
  have hgX : g + 7 < w2.heap.size := (Array.getElem?_eq_some_iff.1 H2.out.2.2.body).1
  have hTg : w1.heap.size < g := by
    have := H2.out.2.1
    simp at this
    omega
  have hwT := H1.out.size
  generalize (w2.alloc (.cells (smA g) 28)) = wb at HE hbx hlk htab ⊢
  generalize w2.heap.size = X at hbx hgX ⊢
  generalize w1.heap.size = T at htab hTg hwT ⊢
  have HW : Hid (∀ k ∈ [X, g + 2, g + 7], w.heap.size ≤ k ∧ T ≠ k) := Lib.hid (fun k hk => by
    simp only [List.mem_cons, List.not_mem_nil, or_false] at hk
    rcases hk with rfl | rfl | rfl <;> omega)
  have HLK := Lib.hid hlk
  have HBX := Lib.hid hbx
  have HT := Lib.hid htab
  have x0 := hbx.cells 0 _ rfl
  have x1 := hbx.cells 1 _ rfl
  have x2 := hbx.cells 2 _ rfl
  have x3 := hbx.cells 3 _ rfl
  have x4 := hbx.cells 4 _ rfl
  have xl := hbx.lt
  have xf := hbx.fz
  have hbb : BoxV (g + 7) (smBs g).toList wb := BoxV.of_row hlk.body
  have bl := hbb.lt
  have bf := hbb.fz
  have b1 := hbb.cells 1 _ rfl
  clear hbb
  have n1 : ¬ (X = g + 7) := by omega
  have n2 : ¬ (g + 7 = X) := by omega
  have n3 : ¬ (X = g + 2) := by omega
  have n4 : ¬ (g + 2 = X) := by omega
  clear hlk hbx htab H1 H2 hwT
  have HKB : Hid (Kb [X, g + 2, g + 7] wb (wb.setCell ⟨g + 7, 1, none⟩ (.string bX))) := Lib.hid (Kb.set _ _ _ (by simp) _)
  go_upto_region 34 with (first | (go_at_call 8; refine (HA.out _ (smX g) ((HLK.out.bset 1 (.string bX)).two rfl)).mono ?_; rintro e3 w3 ⟨rfl, H3⟩) | fail)
  have hfin : Ext w w3 := (HKB.out.ext HE.out (fun k hk => (HW.out k hk).1)).trans H3.out
  have t3 := H3.out.cell (HKB.out.cell (S := [X, g + 2, g + 7]) (fun hm => (HW.out T hm).2 rfl) HT.out)
  have tl := World.block_lt_of_cell? _ _ t3
  clear x0 x1 x2 x3 x4 xl xf HKB H3 HA HLK HBX HE HW b1 bl bf
  go_wp2_with (first | (refine region_drew (by kernel_rfl) (by kernel_rfl) ?_; (repeat (go_big_quiet_step (exact in_drew (num17_any _ _)))); refine wpQuiet_nil ?_; rintro _ ⟨nq, rfl⟩) | fail)
  rw [HQ.out]
  exact ⟨rfl, Lib.hid (by repeat first | exact Ext.refl _ | assumption | refine Ext.drew ?_ | refine Ext.drewN ?_ _ | refine Ext.extBy ?_ _ | refine Ext.alloc ?_ _ | refine Ext.setCell ?_ (by simp; try omega) _ | (refine Ext.trans ?_ (by assumption)))⟩
set_option maxHeartbeats 8000000 in
theorem wrong_8 (w : World) : Calls Try.prog 3 #[.int .i64 ((8 : Nat) : Int)] w fun e w' => e = .returned (.bool true) ∧ Hid (Ext w w') := by
  obtain ⟨Q, hQ⟩ : ∃ Q, Q = fun e w' => e = Ending.returned (.bool true) ∧ Hid (Ext w w') := ⟨_, rfl⟩
  rw [← hQ]
  have HQ := Lib.hid hQ
  obtain ⟨x, hx⟩ : ∃ x, x = wantS 8 := ⟨_, rfl⟩
  have HA : Hid (AskS 8 x) := Lib.hid (by rw [hx]; exact ask_allS ⟨8, by omega⟩)
  have HX := Lib.hid hx
  clear hQ hx
  go_enter Try.func3, Try.ntmps3
  go_upto_region 6 with (first | (go_at_call 5; refine (alive17_any _).mono ?_; rintro e w1 ⟨rfl, H1⟩) | (go_at_call 6; refine (small_any _).mono ?_; rintro e w2 ⟨g, rfl, H2⟩) | fail)
  have HE : Hid (Ext w (w2.alloc (.cells (smA g) 28))) := Lib.hid (((H1.out.alloc _).trans H2.out.1).alloc _)
  have hbx : BoxV w2.heap.size (smA g).toList (w2.alloc (.cells (smA g) 28)) := BoxV.of_row (heap_alloc_last w2 _)
  have hlk : LikeS g smCs (smBs g) (w2.alloc (.cells (smA g) 28)) := H2.out.2.2.ext ((Ext.refl w2).alloc _)
  have htab : (w2.alloc (.cells (smA g) 28)).cell? ⟨w1.heap.size, 8, none⟩ = some (.int .i64 x) := by
    rw [HX.out]
    exact (H2.out.1.alloc _).cell (sm_want _ _ _ (heap_alloc_last w1 _) ⟨8, by omega⟩)
  have hgX : g + 7 < w2.heap.size := (Array.getElem?_eq_some_iff.1 H2.out.2.2.body).1
  have hTg : w1.heap.size < g := by
    have := H2.out.2.1
    simp at this
    omega
  have hwT := H1.out.size
  generalize (w2.alloc (.cells (smA g) 28)) = wb at HE hbx hlk htab ⊢
  generalize w2.heap.size = X at hbx hgX ⊢
  generalize w1.heap.size = T at htab hTg hwT ⊢
  have HW : Hid (∀ k ∈ [X, g + 2, g + 7], w.heap.size ≤ k ∧ T ≠ k) := Lib.hid (fun k hk => by
    simp only [List.mem_cons, List.not_mem_nil, or_false] at hk
    rcases hk with rfl | rfl | rfl <;> omega)
  have HLK := Lib.hid hlk
  have HBX := Lib.hid hbx
  have HT := Lib.hid htab
  have x0 := hbx.cells 0 _ rfl
  have x1 := hbx.cells 1 _ rfl
  have x2 := hbx.cells 2 _ rfl
  have x3 := hbx.cells 3 _ rfl
  have x4 := hbx.cells 4 _ rfl
  have xl := hbx.lt
  have xf := hbx.fz
  have hbb : BoxV (g + 7) (smBs g).toList wb := BoxV.of_row hlk.body
  have bl := hbb.lt
  have bf := hbb.fz
  have b1 := hbb.cells 1 _ rfl
  clear hbb
  have n1 : ¬ (X = g + 7) := by omega
  have n2 : ¬ (g + 7 = X) := by omega
  have n3 : ¬ (X = g + 2) := by omega
  have n4 : ¬ (g + 2 = X) := by omega
  clear hlk hbx htab H1 H2 hwT
  have HKB : Hid (Kb [X, g + 2, g + 7] wb (wb.setCell ⟨g + 7, 1, none⟩ (.string bM))) := Lib.hid (Kb.set _ _ _ (by simp) _)
  go_upto_region 34 with (first | (go_at_call 8; refine (HA.out _ (smX g) ((HLK.out.bset 1 (.string bM)).two rfl)).mono ?_; rintro e3 w3 ⟨rfl, H3⟩) | fail)
  have hfin : Ext w w3 := (HKB.out.ext HE.out (fun k hk => (HW.out k hk).1)).trans H3.out
  have t3 := H3.out.cell (HKB.out.cell (S := [X, g + 2, g + 7]) (fun hm => (HW.out T hm).2 rfl) HT.out)
  have tl := World.block_lt_of_cell? _ _ t3
  clear x0 x1 x2 x3 x4 xl xf HKB H3 HA HLK HBX HE HW b1 bl bf
  go_wp2_with (first | (refine region_drew (by kernel_rfl) (by kernel_rfl) ?_; (repeat (go_big_quiet_step (exact in_drew (num17_any _ _)))); refine wpQuiet_nil ?_; rintro _ ⟨nq, rfl⟩) | fail)
  rw [HQ.out]
  exact ⟨rfl, Lib.hid (by repeat first | exact Ext.refl _ | assumption | refine Ext.drew ?_ | refine Ext.drewN ?_ _ | refine Ext.extBy ?_ _ | refine Ext.alloc ?_ _ | refine Ext.setCell ?_ (by simp; try omega) _ | (refine Ext.trans ?_ (by assumption)))⟩
set_option maxHeartbeats 8000000 in
theorem wrong_9 (w : World) : Calls Try.prog 3 #[.int .i64 ((9 : Nat) : Int)] w fun e w' => e = .returned (.bool true) ∧ Hid (Ext w w') := by
  obtain ⟨Q, hQ⟩ : ∃ Q, Q = fun e w' => e = Ending.returned (.bool true) ∧ Hid (Ext w w') := ⟨_, rfl⟩
  rw [← hQ]
  have HQ := Lib.hid hQ
  obtain ⟨x, hx⟩ : ∃ x, x = wantS 9 := ⟨_, rfl⟩
  have HA : Hid (AskS 9 x) := Lib.hid (by rw [hx]; exact ask_allS ⟨9, by omega⟩)
  have HX := Lib.hid hx
  clear hQ hx
  go_enter Try.func3, Try.ntmps3
  go_upto_region 6 with (first | (go_at_call 5; refine (alive17_any _).mono ?_; rintro e w1 ⟨rfl, H1⟩) | (go_at_call 6; refine (small_any _).mono ?_; rintro e w2 ⟨g, rfl, H2⟩) | fail)
  have HE : Hid (Ext w (w2.alloc (.cells (smA g) 28))) := Lib.hid (((H1.out.alloc _).trans H2.out.1).alloc _)
  have hbx : BoxV w2.heap.size (smA g).toList (w2.alloc (.cells (smA g) 28)) := BoxV.of_row (heap_alloc_last w2 _)
  have hlk : LikeS g smCs (smBs g) (w2.alloc (.cells (smA g) 28)) := H2.out.2.2.ext ((Ext.refl w2).alloc _)
  have htab : (w2.alloc (.cells (smA g) 28)).cell? ⟨w1.heap.size, 9, none⟩ = some (.int .i64 x) := by
    rw [HX.out]
    exact (H2.out.1.alloc _).cell (sm_want _ _ _ (heap_alloc_last w1 _) ⟨9, by omega⟩)
  have hgX : g + 7 < w2.heap.size := (Array.getElem?_eq_some_iff.1 H2.out.2.2.body).1
  have hTg : w1.heap.size < g := by
    have := H2.out.2.1
    simp at this
    omega
  have hwT := H1.out.size
  generalize (w2.alloc (.cells (smA g) 28)) = wb at HE hbx hlk htab ⊢
  generalize w2.heap.size = X at hbx hgX ⊢
  generalize w1.heap.size = T at htab hTg hwT ⊢
  have HW : Hid (∀ k ∈ [X, g + 2, g + 7], w.heap.size ≤ k ∧ T ≠ k) := Lib.hid (fun k hk => by
    simp only [List.mem_cons, List.not_mem_nil, or_false] at hk
    rcases hk with rfl | rfl | rfl <;> omega)
  have HLK := Lib.hid hlk
  have HBX := Lib.hid hbx
  have HT := Lib.hid htab
  have x0 := hbx.cells 0 _ rfl
  have x1 := hbx.cells 1 _ rfl
  have x2 := hbx.cells 2 _ rfl
  have x3 := hbx.cells 3 _ rfl
  have x4 := hbx.cells 4 _ rfl
  have xl := hbx.lt
  have xf := hbx.fz
  have hbb : BoxV (g + 7) (smBs g).toList wb := BoxV.of_row hlk.body
  have bl := hbb.lt
  have bf := hbb.fz
  have b11 := hbb.cells 11 _ rfl
  clear hbb
  have n1 : ¬ (X = g + 7) := by omega
  have n2 : ¬ (g + 7 = X) := by omega
  have n3 : ¬ (X = g + 2) := by omega
  have n4 : ¬ (g + 2 = X) := by omega
  clear hlk hbx htab H1 H2 hwT
  have HKB : Hid (Kb [X, g + 2, g + 7] wb (wb.setCell ⟨g + 7, 11, none⟩ (.string bY))) := Lib.hid (Kb.set _ _ _ (by simp) _)
  go_upto_region 34 with (first | (go_at_call 8; refine (HA.out _ (smX g) ((HLK.out.bset 11 (.string bY)).two rfl)).mono ?_; rintro e3 w3 ⟨rfl, H3⟩) | fail)
  have hfin : Ext w w3 := (HKB.out.ext HE.out (fun k hk => (HW.out k hk).1)).trans H3.out
  have t3 := H3.out.cell (HKB.out.cell (S := [X, g + 2, g + 7]) (fun hm => (HW.out T hm).2 rfl) HT.out)
  have tl := World.block_lt_of_cell? _ _ t3
  clear x0 x1 x2 x3 x4 xl xf HKB H3 HA HLK HBX HE HW b11 bl bf
  go_wp2_with (first | (refine region_drew (by kernel_rfl) (by kernel_rfl) ?_; (repeat (go_big_quiet_step (exact in_drew (num17_any _ _)))); refine wpQuiet_nil ?_; rintro _ ⟨nq, rfl⟩) | fail)
  rw [HQ.out]
  exact ⟨rfl, Lib.hid (by repeat first | exact Ext.refl _ | assumption | refine Ext.drew ?_ | refine Ext.drewN ?_ _ | refine Ext.extBy ?_ _ | refine Ext.alloc ?_ _ | refine Ext.setCell ?_ (by simp; try omega) _ | (refine Ext.trans ?_ (by assumption)))⟩
end Go.Proofs.Ytkjgghbdpmkmoaa

namespace Go.Proofs.Ytkjgghbdpmkmoaa
open Go.RowKit Go.Maps
set_option linter.unusedSimpArgs false
set_option linter.unusedVariables false
set_option maxRecDepth 100000

set_option maxHeartbeats 8000000 in
theorem wrong_1 (w : World) : Calls Try.prog 3 #[.int .i64 ((1 : Nat) : Int)] w fun e w' => e = .returned (.bool true) ∧ Hid (Ext w w') := by
  obtain ⟨Q, hQ⟩ : ∃ Q, Q = fun e w' => e = Ending.returned (.bool true) ∧ Hid (Ext w w') := ⟨_, rfl⟩
  rw [← hQ]
  have HQ := Lib.hid hQ
  obtain ⟨x, hx⟩ : ∃ x, x = wantS 1 := ⟨_, rfl⟩
  have HA : Hid (AskS 1 x) := Lib.hid (by rw [hx]; exact ask_allS ⟨1, by omega⟩)
  have HX := Lib.hid hx
  clear hQ hx
  go_enter Try.func3, Try.ntmps3
  go_upto_region 6 with (first | (go_at_call 5; refine (alive17_any _).mono ?_; rintro e w1 ⟨rfl, H1⟩) | (go_at_call 6; refine (small_any _).mono ?_; rintro e w2 ⟨g, rfl, H2⟩) | fail)
  have HE : Hid (Ext w (w2.alloc (.cells (smA g) 28))) := Lib.hid (((H1.out.alloc _).trans H2.out.1).alloc _)
  have hbx : BoxV w2.heap.size (smA g).toList (w2.alloc (.cells (smA g) 28)) := BoxV.of_row (heap_alloc_last w2 _)
  have hlk : LikeS g smCs (smBs g) (w2.alloc (.cells (smA g) 28)) := H2.out.2.2.ext ((Ext.refl w2).alloc _)
  have htab : (w2.alloc (.cells (smA g) 28)).cell? ⟨w1.heap.size, 1, none⟩ = some (.int .i64 x) := by
    rw [HX.out]
    exact (H2.out.1.alloc _).cell (sm_want _ _ _ (heap_alloc_last w1 _) ⟨1, by omega⟩)
  have hgX : g + 7 < w2.heap.size := (Array.getElem?_eq_some_iff.1 H2.out.2.2.body).1
  have hTg : w1.heap.size < g := by
    have := H2.out.2.1
    simp at this
    omega
  have hwT := H1.out.size
  generalize (w2.alloc (.cells (smA g) 28)) = wb at HE hbx hlk htab ⊢
  generalize w2.heap.size = X at hbx hgX ⊢
  generalize w1.heap.size = T at htab hTg hwT ⊢
  have HW : Hid (∀ k ∈ [X, g + 2, g + 7], w.heap.size ≤ k ∧ T ≠ k) := Lib.hid (fun k hk => by
    simp only [List.mem_cons, List.not_mem_nil, or_false] at hk
    rcases hk with rfl | rfl | rfl <;> omega)
  have HLK := Lib.hid hlk
  have HBX := Lib.hid hbx
  have HT := Lib.hid htab
  have x0 := hbx.cells 0 _ rfl
  have x1 := hbx.cells 1 _ rfl
  have x2 := hbx.cells 2 _ rfl
  have x3 := hbx.cells 3 _ rfl
  have x4 := hbx.cells 4 _ rfl
  have xl := hbx.lt
  have xf := hbx.fz

  have n1 : ¬ (X = g + 7) := by omega
  have n2 : ¬ (g + 7 = X) := by omega
  have n3 : ¬ (X = g + 2) := by omega
  have n4 : ¬ (g + 2 = X) := by omega
  clear hlk hbx htab H1 H2 hwT
  have HKB : Hid (Kb [X, g + 2, g + 7] wb ((wb.setCell ⟨X, 2, none⟩ (.slice (some ⟨wb.heap.size, 0, none⟩) 1 1)).alloc (.cells #[.string bX, .int .i64 2, NL] 32))) := Lib.hid ((Kb.set _ _ _ (by simp) _).trans (Kb.of_ext ((Ext.refl _).alloc _)))
  go_upto_region 34 with (first | (go_at_call 8; refine (HA.out _ ⟨.slice (some ⟨g, 0, none⟩) 1 1, .slice (some ⟨g + 1, 0, none⟩) 1 1, .slice (some ⟨wb.heap.size, 0, none⟩) 1 1, .slice (some ⟨g + 2, 0, none⟩) 1 1, .slice (some ⟨g + 7, 0, none⟩) 2 2⟩ (((HLK.out.other (by omega) _ _).ext ((Ext.refl _).alloc _)).withVars (VIn.one (heap_alloc_at _ _ _ (by simp))))).mono ?_; rintro e3 w3 ⟨rfl, H3⟩) | fail)
  have hfin : Ext w w3 := (HKB.out.ext HE.out (fun k hk => (HW.out k hk).1)).trans H3.out
  have t3 := H3.out.cell (HKB.out.cell (S := [X, g + 2, g + 7]) (fun hm => (HW.out T hm).2 rfl) HT.out)
  have tl := World.block_lt_of_cell? _ _ t3
  clear x0 x1 x2 x3 x4 xl xf HKB H3 HA HLK HBX HE HW
  go_wp2_with (first | (refine region_drew (by kernel_rfl) (by kernel_rfl) ?_; (repeat (go_big_quiet_step (exact in_drew (num17_any _ _)))); refine wpQuiet_nil ?_; rintro _ ⟨nq, rfl⟩) | fail)
  rw [HQ.out]
  exact ⟨rfl, Lib.hid (by repeat first | exact Ext.refl _ | assumption | refine Ext.drew ?_ | refine Ext.drewN ?_ _ | refine Ext.extBy ?_ _ | refine Ext.alloc ?_ _ | refine Ext.setCell ?_ (by simp; try omega) _ | (refine Ext.trans ?_ (by assumption)))⟩
set_option maxHeartbeats 8000000 in
theorem wrong_2 (w : World) : Calls Try.prog 3 #[.int .i64 ((2 : Nat) : Int)] w fun e w' => e = .returned (.bool true) ∧ Hid (Ext w w') := by
  obtain ⟨Q, hQ⟩ : ∃ Q, Q = fun e w' => e = Ending.returned (.bool true) ∧ Hid (Ext w w') := ⟨_, rfl⟩
  rw [← hQ]
  have HQ := Lib.hid hQ
  obtain ⟨x, hx⟩ : ∃ x, x = wantS 2 := ⟨_, rfl⟩
  have HA : Hid (AskS 2 x) := Lib.hid (by rw [hx]; exact ask_allS ⟨2, by omega⟩)
  have HX := Lib.hid hx
  clear hQ hx
  go_enter Try.func3, Try.ntmps3
  go_upto_region 6 with (first | (go_at_call 5; refine (alive17_any _).mono ?_; rintro e w1 ⟨rfl, H1⟩) | (go_at_call 6; refine (small_any _).mono ?_; rintro e w2 ⟨g, rfl, H2⟩) | fail)
  have HE : Hid (Ext w (w2.alloc (.cells (smA g) 28))) := Lib.hid (((H1.out.alloc _).trans H2.out.1).alloc _)
  have hbx : BoxV w2.heap.size (smA g).toList (w2.alloc (.cells (smA g) 28)) := BoxV.of_row (heap_alloc_last w2 _)
  have hlk : LikeS g smCs (smBs g) (w2.alloc (.cells (smA g) 28)) := H2.out.2.2.ext ((Ext.refl w2).alloc _)
  have htab : (w2.alloc (.cells (smA g) 28)).cell? ⟨w1.heap.size, 2, none⟩ = some (.int .i64 x) := by
    rw [HX.out]
    exact (H2.out.1.alloc _).cell (sm_want _ _ _ (heap_alloc_last w1 _) ⟨2, by omega⟩)
  have hgX : g + 7 < w2.heap.size := (Array.getElem?_eq_some_iff.1 H2.out.2.2.body).1
  have hTg : w1.heap.size < g := by
    have := H2.out.2.1
    simp at this
    omega
  have hwT := H1.out.size
  generalize (w2.alloc (.cells (smA g) 28)) = wb at HE hbx hlk htab ⊢
  generalize w2.heap.size = X at hbx hgX ⊢
  generalize w1.heap.size = T at htab hTg hwT ⊢
  have HW : Hid (∀ k ∈ [X, g + 2, g + 7], w.heap.size ≤ k ∧ T ≠ k) := Lib.hid (fun k hk => by
    simp only [List.mem_cons, List.not_mem_nil, or_false] at hk
    rcases hk with rfl | rfl | rfl <;> omega)
  have HLK := Lib.hid hlk
  have HBX := Lib.hid hbx
  have HT := Lib.hid htab
  have x0 := hbx.cells 0 _ rfl
  have x1 := hbx.cells 1 _ rfl
  have x2 := hbx.cells 2 _ rfl
  have x3 := hbx.cells 3 _ rfl
  have x4 := hbx.cells 4 _ rfl
  have xl := hbx.lt
  have xf := hbx.fz

  have n1 : ¬ (X = g + 7) := by omega
  have n2 : ¬ (g + 7 = X) := by omega
  have n3 : ¬ (X = g + 2) := by omega
  have n4 : ¬ (g + 2 = X) := by omega
  clear hlk hbx htab H1 H2 hwT
  have HKB : Hid (Kb [X, g + 2, g + 7] wb ((wb.setCell ⟨X, 2, none⟩ (.slice (some ⟨wb.heap.size, 0, none⟩) 1 1)).alloc (.cells #[.string bV, .int .i64 0, NL] 32))) := Lib.hid ((Kb.set _ _ _ (by simp) _).trans (Kb.of_ext ((Ext.refl _).alloc _)))
  go_upto_region 34 with (first | (go_at_call 8; refine (HA.out _ ⟨.slice (some ⟨g, 0, none⟩) 1 1, .slice (some ⟨g + 1, 0, none⟩) 1 1, .slice (some ⟨wb.heap.size, 0, none⟩) 1 1, .slice (some ⟨g + 2, 0, none⟩) 1 1, .slice (some ⟨g + 7, 0, none⟩) 2 2⟩ (((HLK.out.other (by omega) _ _).ext ((Ext.refl _).alloc _)).withVars (VIn.one (heap_alloc_at _ _ _ (by simp))))).mono ?_; rintro e3 w3 ⟨rfl, H3⟩) | fail)
  have hfin : Ext w w3 := (HKB.out.ext HE.out (fun k hk => (HW.out k hk).1)).trans H3.out
  have t3 := H3.out.cell (HKB.out.cell (S := [X, g + 2, g + 7]) (fun hm => (HW.out T hm).2 rfl) HT.out)
  have tl := World.block_lt_of_cell? _ _ t3
  clear x0 x1 x2 x3 x4 xl xf HKB H3 HA HLK HBX HE HW
  go_wp2_with (first | (refine region_drew (by kernel_rfl) (by kernel_rfl) ?_; (repeat (go_big_quiet_step (exact in_drew (num17_any _ _)))); refine wpQuiet_nil ?_; rintro _ ⟨nq, rfl⟩) | fail)
  rw [HQ.out]
  exact ⟨rfl, Lib.hid (by repeat first | exact Ext.refl _ | assumption | refine Ext.drew ?_ | refine Ext.drewN ?_ _ | refine Ext.extBy ?_ _ | refine Ext.alloc ?_ _ | refine Ext.setCell ?_ (by simp; try omega) _ | (refine Ext.trans ?_ (by assumption)))⟩
set_option maxHeartbeats 8000000 in
theorem wrong_4 (w : World) : Calls Try.prog 3 #[.int .i64 ((4 : Nat) : Int)] w fun e w' => e = .returned (.bool true) ∧ Hid (Ext w w') := by
  obtain ⟨Q, hQ⟩ : ∃ Q, Q = fun e w' => e = Ending.returned (.bool true) ∧ Hid (Ext w w') := ⟨_, rfl⟩
  rw [← hQ]
  have HQ := Lib.hid hQ
  obtain ⟨x, hx⟩ : ∃ x, x = wantS 4 := ⟨_, rfl⟩
  have HA : Hid (AskS 4 x) := Lib.hid (by rw [hx]; exact ask_allS ⟨4, by omega⟩)
  have HX := Lib.hid hx
  clear hQ hx
  go_enter Try.func3, Try.ntmps3
  go_upto_region 6 with (first | (go_at_call 5; refine (alive17_any _).mono ?_; rintro e w1 ⟨rfl, H1⟩) | (go_at_call 6; refine (small_any _).mono ?_; rintro e w2 ⟨g, rfl, H2⟩) | fail)
  have HE : Hid (Ext w (w2.alloc (.cells (smA g) 28))) := Lib.hid (((H1.out.alloc _).trans H2.out.1).alloc _)
  have hbx : BoxV w2.heap.size (smA g).toList (w2.alloc (.cells (smA g) 28)) := BoxV.of_row (heap_alloc_last w2 _)
  have hlk : LikeS g smCs (smBs g) (w2.alloc (.cells (smA g) 28)) := H2.out.2.2.ext ((Ext.refl w2).alloc _)
  have htab : (w2.alloc (.cells (smA g) 28)).cell? ⟨w1.heap.size, 4, none⟩ = some (.int .i64 x) := by
    rw [HX.out]
    exact (H2.out.1.alloc _).cell (sm_want _ _ _ (heap_alloc_last w1 _) ⟨4, by omega⟩)
  have hgX : g + 7 < w2.heap.size := (Array.getElem?_eq_some_iff.1 H2.out.2.2.body).1
  have hTg : w1.heap.size < g := by
    have := H2.out.2.1
    simp at this
    omega
  have hwT := H1.out.size
  generalize (w2.alloc (.cells (smA g) 28)) = wb at HE hbx hlk htab ⊢
  generalize w2.heap.size = X at hbx hgX ⊢
  generalize w1.heap.size = T at htab hTg hwT ⊢
  have HW : Hid (∀ k ∈ [X, g + 2, g + 7], w.heap.size ≤ k ∧ T ≠ k) := Lib.hid (fun k hk => by
    simp only [List.mem_cons, List.not_mem_nil, or_false] at hk
    rcases hk with rfl | rfl | rfl <;> omega)
  have HLK := Lib.hid hlk
  have HBX := Lib.hid hbx
  have HT := Lib.hid htab
  have x0 := hbx.cells 0 _ rfl
  have x1 := hbx.cells 1 _ rfl
  have x2 := hbx.cells 2 _ rfl
  have x3 := hbx.cells 3 _ rfl
  have x4 := hbx.cells 4 _ rfl
  have xl := hbx.lt
  have xf := hbx.fz
  have hcc : BoxV (g + 2) smCs.toList wb := BoxV.of_row hlk.cells
  have cl := hcc.lt
  have cf := hcc.fz
  have c0 := hcc.cells 0 _ rfl
  have c1 := hcc.cells 1 _ rfl
  have c2 := hcc.cells 2 _ rfl
  clear hcc
  have n1 : ¬ (X = g + 7) := by omega
  have n2 : ¬ (g + 7 = X) := by omega
  have n3 : ¬ (X = g + 2) := by omega
  have n4 : ¬ (g + 2 = X) := by omega
  clear hlk hbx htab H1 H2 hwT
  have HKB : Hid (Kb [X, g + 2, g + 7] wb (wb.setCell ⟨g + 2, 2, none⟩ (.int .i64 128))) := Lib.hid (Kb.set _ _ _ (by simp) _)
  go_upto_region 34 with (first | (go_at_call 8; refine (HA.out _ (smX g) ((HLK.out.cset 2 (.int .i64 128)).withInit)).mono ?_; rintro e3 w3 ⟨rfl, H3⟩) | fail)
  have hfin : Ext w w3 := (HKB.out.ext HE.out (fun k hk => (HW.out k hk).1)).trans H3.out
  have t3 := H3.out.cell (HKB.out.cell (S := [X, g + 2, g + 7]) (fun hm => (HW.out T hm).2 rfl) HT.out)
  have tl := World.block_lt_of_cell? _ _ t3
  clear x0 x1 x2 x3 x4 xl xf HKB H3 HA HLK HBX HE HW c0 c1 c2 cl cf
  go_wp2_with (first | (refine region_drew (by kernel_rfl) (by kernel_rfl) ?_; (repeat (go_big_quiet_step (exact in_drew (num17_any _ _)))); refine wpQuiet_nil ?_; rintro _ ⟨nq, rfl⟩) | fail)
  rw [HQ.out]
  exact ⟨rfl, Lib.hid (by repeat first | exact Ext.refl _ | assumption | refine Ext.drew ?_ | refine Ext.drewN ?_ _ | refine Ext.extBy ?_ _ | refine Ext.alloc ?_ _ | refine Ext.setCell ?_ (by simp; try omega) _ | (refine Ext.trans ?_ (by assumption)))⟩
end Go.Proofs.Ytkjgghbdpmkmoaa

namespace Go.Proofs.Ytkjgghbdpmkmoaa
open Go.RowKit Go.Maps
set_option linter.unusedSimpArgs false
set_option linter.unusedVariables false
set_option maxRecDepth 100000

set_option maxHeartbeats 8000000 in
theorem wrong_6 (w : World) : Calls Try.prog 3 #[.int .i64 ((6 : Nat) : Int)] w fun e w' => e = .returned (.bool true) ∧ Hid (Ext w w') := by
  obtain ⟨Q, hQ⟩ : ∃ Q, Q = fun e w' => e = Ending.returned (.bool true) ∧ Hid (Ext w w') := ⟨_, rfl⟩
  rw [← hQ]
  have HQ := Lib.hid hQ
  obtain ⟨x, hx⟩ : ∃ x, x = wantS 6 := ⟨_, rfl⟩
  have HA : Hid (AskS 6 x) := Lib.hid (by rw [hx]; exact ask_allS ⟨6, by omega⟩)
  have HX := Lib.hid hx
  clear hQ hx
  go_enter Try.func3, Try.ntmps3
  go_upto_region 6 with (first | (go_at_call 5; refine (alive17_any _).mono ?_; rintro e w1 ⟨rfl, H1⟩) | (go_at_call 6; refine (small_any _).mono ?_; rintro e w2 ⟨g, rfl, H2⟩) | fail)
  have HE : Hid (Ext w (w2.alloc (.cells (smA g) 28))) := Lib.hid (((H1.out.alloc _).trans H2.out.1).alloc _)
  have hbx : BoxV w2.heap.size (smA g).toList (w2.alloc (.cells (smA g) 28)) := BoxV.of_row (heap_alloc_last w2 _)
  have hlk : LikeS g smCs (smBs g) (w2.alloc (.cells (smA g) 28)) := H2.out.2.2.ext ((Ext.refl w2).alloc _)
  have htab : (w2.alloc (.cells (smA g) 28)).cell? ⟨w1.heap.size, 6, none⟩ = some (.int .i64 x) := by
    rw [HX.out]
    exact (H2.out.1.alloc _).cell (sm_want _ _ _ (heap_alloc_last w1 _) ⟨6, by omega⟩)
  have hgX : g + 7 < w2.heap.size := (Array.getElem?_eq_some_iff.1 H2.out.2.2.body).1
  have hTg : w1.heap.size < g := by
    have := H2.out.2.1
    simp at this
    omega
  have hwT := H1.out.size
  generalize (w2.alloc (.cells (smA g) 28)) = wb at HE hbx hlk htab ⊢
  generalize w2.heap.size = X at hbx hgX ⊢
  generalize w1.heap.size = T at htab hTg hwT ⊢
  have HW : Hid (∀ k ∈ [X, g + 2, g + 7], w.heap.size ≤ k ∧ T ≠ k) := Lib.hid (fun k hk => by
    simp only [List.mem_cons, List.not_mem_nil, or_false] at hk
    rcases hk with rfl | rfl | rfl <;> omega)
  have HLK := Lib.hid hlk
  have HBX := Lib.hid hbx
  have HT := Lib.hid htab
  have x0 := hbx.cells 0 _ rfl
  have x1 := hbx.cells 1 _ rfl
  have x2 := hbx.cells 2 _ rfl
  have x3 := hbx.cells 3 _ rfl
  have x4 := hbx.cells 4 _ rfl
  have xl := hbx.lt
  have xf := hbx.fz
  have hbb : BoxV (g + 7) (smBs g).toList wb := BoxV.of_row hlk.body
  have bl := hbb.lt
  have bf := hbb.fz
  have b10 := hbb.cells 10 _ rfl
  have b11 := hbb.cells 11 _ rfl
  have b12 := hbb.cells 12 _ rfl
  have b13 := hbb.cells 13 _ rfl
  have b14 := hbb.cells 14 _ rfl
  have b15 := hbb.cells 15 _ rfl
  have b16 := hbb.cells 16 _ rfl
  have b17 := hbb.cells 17 _ rfl
  have b18 := hbb.cells 18 _ rfl
  have b19 := hbb.cells 19 _ rfl
  clear hbb
  have n1 : ¬ (X = g + 7) := by omega
  have n2 : ¬ (g + 7 = X) := by omega
  have n3 : ¬ (X = g + 2) := by omega
  have n4 : ¬ (g + 2 = X) := by omega
  clear hlk hbx htab H1 H2 hwT
  have HKB : Hid (Kb [X, g + 2, g + 7] wb (((((((wb.setCell ⟨g + 7, 12, none⟩ (.int .i64 1)).setCell ⟨g + 7, 13, none⟩ (.int .i64 0)).setCell ⟨g + 7, 14, none⟩ (.int .i64 2)).setCell ⟨g + 7, 15, none⟩ (.int .i64 200)).setCell ⟨g + 7, 16, none⟩ (.string b0)).setCell ⟨g + 7, 17, none⟩ (.slice none 0 0)))) := Lib.hid ((((((Kb.set _ _ _ (by simp) _).trans (Kb.set _ _ _ (by simp) _)).trans (Kb.set _ _ _ (by simp) _)).trans (Kb.set _ _ _ (by simp) _)).trans (Kb.set _ _ _ (by simp) _)).trans (Kb.set _ _ _ (by simp) _))
  have HL6 := Lib.hid (HLK.out.six (.int .i64 1) (.int .i64 0) (.int .i64 2) (.int .i64 200) (.string b0) (.slice none 0 0))
  have HS6 : Hid (SPIn (((((((wb.setCell ⟨g + 7, 12, none⟩ (.int .i64 1)).setCell ⟨g + 7, 13, none⟩ (.int .i64 0)).setCell ⟨g + 7, 14, none⟩ (.int .i64 2)).setCell ⟨g + 7, 15, none⟩ (.int .i64 200)).setCell ⟨g + 7, 16, none⟩ (.string b0)).setCell ⟨g + 7, 17, none⟩ (.slice none 0 0))) (wrongS 6) (smX g)) := Lib.hid (HL6.out.two rfl)
  clear HL6
  go_upto_region 34 with (first | (go_at_call 8; refine (HA.out _ (smX g) (HS6.out)).mono ?_; rintro e3 w3 ⟨rfl, H3⟩) | fail)
  have hfin : Ext w w3 := (HKB.out.ext HE.out (fun k hk => (HW.out k hk).1)).trans H3.out
  have t3 := H3.out.cell (HKB.out.cell (S := [X, g + 2, g + 7]) (fun hm => (HW.out T hm).2 rfl) HT.out)
  have tl := World.block_lt_of_cell? _ _ t3
  clear x0 x1 x2 x3 x4 xl xf HKB H3 HA HLK HBX HE HW b10 b11 b12 b13 b14 b15 b16 b17 b18 b19 bl bf
  go_wp2_with (first | (refine region_drew (by kernel_rfl) (by kernel_rfl) ?_; (repeat (go_big_quiet_step (exact in_drew (num17_any _ _)))); refine wpQuiet_nil ?_; rintro _ ⟨nq, rfl⟩) | fail)
  rw [HQ.out]
  exact ⟨rfl, Lib.hid (by repeat first | exact Ext.refl _ | assumption | refine Ext.drew ?_ | refine Ext.drewN ?_ _ | refine Ext.extBy ?_ _ | refine Ext.alloc ?_ _ | refine Ext.setCell ?_ (by simp; try omega) _ | (refine Ext.trans ?_ (by assumption)))⟩
set_option maxHeartbeats 8000000 in
theorem wrong_12 (w : World) : Calls Try.prog 3 #[.int .i64 ((12 : Nat) : Int)] w fun e w' => e = .returned (.bool true) ∧ Hid (Ext w w') := by
  obtain ⟨Q, hQ⟩ : ∃ Q, Q = fun e w' => e = Ending.returned (.bool true) ∧ Hid (Ext w w') := ⟨_, rfl⟩
  rw [← hQ]
  have HQ := Lib.hid hQ
  obtain ⟨x, hx⟩ : ∃ x, x = wantS 12 := ⟨_, rfl⟩
  have HA : Hid (AskS 12 x) := Lib.hid (by rw [hx]; exact ask_allS ⟨12, by omega⟩)
  have HX := Lib.hid hx
  clear hQ hx
  go_enter Try.func3, Try.ntmps3
  go_upto_region 6 with (first | (go_at_call 5; refine (alive17_any _).mono ?_; rintro e w1 ⟨rfl, H1⟩) | (go_at_call 6; refine (small_any _).mono ?_; rintro e w2 ⟨g, rfl, H2⟩) | fail)
  have HE : Hid (Ext w (w2.alloc (.cells (smA g) 28))) := Lib.hid (((H1.out.alloc _).trans H2.out.1).alloc _)
  have hbx : BoxV w2.heap.size (smA g).toList (w2.alloc (.cells (smA g) 28)) := BoxV.of_row (heap_alloc_last w2 _)
  have hlk : LikeS g smCs (smBs g) (w2.alloc (.cells (smA g) 28)) := H2.out.2.2.ext ((Ext.refl w2).alloc _)
  have htab : (w2.alloc (.cells (smA g) 28)).cell? ⟨w1.heap.size, 12, none⟩ = some (.int .i64 x) := by
    rw [HX.out]
    exact (H2.out.1.alloc _).cell (sm_want _ _ _ (heap_alloc_last w1 _) ⟨12, by omega⟩)
  have hgX : g + 7 < w2.heap.size := (Array.getElem?_eq_some_iff.1 H2.out.2.2.body).1
  have hTg : w1.heap.size < g := by
    have := H2.out.2.1
    simp at this
    omega
  have hwT := H1.out.size
  generalize (w2.alloc (.cells (smA g) 28)) = wb at HE hbx hlk htab ⊢
  generalize w2.heap.size = X at hbx hgX ⊢
  generalize w1.heap.size = T at htab hTg hwT ⊢
  have HW : Hid (∀ k ∈ [X, g + 2, g + 7], w.heap.size ≤ k ∧ T ≠ k) := Lib.hid (fun k hk => by
    simp only [List.mem_cons, List.not_mem_nil, or_false] at hk
    rcases hk with rfl | rfl | rfl <;> omega)
  have HLK := Lib.hid hlk
  have HBX := Lib.hid hbx
  have HT := Lib.hid htab
  have x0 := hbx.cells 0 _ rfl
  have x1 := hbx.cells 1 _ rfl
  have x2 := hbx.cells 2 _ rfl
  have x3 := hbx.cells 3 _ rfl
  have x4 := hbx.cells 4 _ rfl
  have xl := hbx.lt
  have xf := hbx.fz
  have hbb : BoxV (g + 7) (smBs g).toList wb := BoxV.of_row hlk.body
  have bl := hbb.lt
  have bf := hbb.fz
  have b10 := hbb.cells 10 _ rfl
  have b11 := hbb.cells 11 _ rfl
  have b12 := hbb.cells 12 _ rfl
  have b13 := hbb.cells 13 _ rfl
  have b14 := hbb.cells 14 _ rfl
  have b15 := hbb.cells 15 _ rfl
  have b16 := hbb.cells 16 _ rfl
  have b17 := hbb.cells 17 _ rfl
  have b18 := hbb.cells 18 _ rfl
  have b19 := hbb.cells 19 _ rfl
  clear hbb
  have n1 : ¬ (X = g + 7) := by omega
  have n2 : ¬ (g + 7 = X) := by omega
  have n3 : ¬ (X = g + 2) := by omega
  have n4 : ¬ (g + 2 = X) := by omega
  clear hlk hbx htab H1 H2 hwT
  have HKB : Hid (Kb [X, g + 2, g + 7] wb (((((((wb.setCell ⟨g + 7, 12, none⟩ (.int .i64 1)).setCell ⟨g + 7, 13, none⟩ (.int .i64 0)).setCell ⟨g + 7, 14, none⟩ (.int .i64 6)).setCell ⟨g + 7, 15, none⟩ (.int .i64 1)).setCell ⟨g + 7, 16, none⟩ (.string b0)).setCell ⟨g + 7, 17, none⟩ (.slice none 0 0)))) := Lib.hid ((((((Kb.set _ _ _ (by simp) _).trans (Kb.set _ _ _ (by simp) _)).trans (Kb.set _ _ _ (by simp) _)).trans (Kb.set _ _ _ (by simp) _)).trans (Kb.set _ _ _ (by simp) _)).trans (Kb.set _ _ _ (by simp) _))
  have HL6 := Lib.hid (HLK.out.six (.int .i64 1) (.int .i64 0) (.int .i64 6) (.int .i64 1) (.string b0) (.slice none 0 0))
  have HS6 : Hid (SPIn (((((((wb.setCell ⟨g + 7, 12, none⟩ (.int .i64 1)).setCell ⟨g + 7, 13, none⟩ (.int .i64 0)).setCell ⟨g + 7, 14, none⟩ (.int .i64 6)).setCell ⟨g + 7, 15, none⟩ (.int .i64 1)).setCell ⟨g + 7, 16, none⟩ (.string b0)).setCell ⟨g + 7, 17, none⟩ (.slice none 0 0))) (wrongS 12) (smX g)) := Lib.hid (HL6.out.two rfl)
  clear HL6
  go_upto_region 34 with (first | (go_at_call 8; refine (HA.out _ (smX g) (HS6.out)).mono ?_; rintro e3 w3 ⟨rfl, H3⟩) | fail)
  have hfin : Ext w w3 := (HKB.out.ext HE.out (fun k hk => (HW.out k hk).1)).trans H3.out
  have t3 := H3.out.cell (HKB.out.cell (S := [X, g + 2, g + 7]) (fun hm => (HW.out T hm).2 rfl) HT.out)
  have tl := World.block_lt_of_cell? _ _ t3
  clear x0 x1 x2 x3 x4 xl xf HKB H3 HA HLK HBX HE HW b10 b11 b12 b13 b14 b15 b16 b17 b18 b19 bl bf
  go_wp2_with (first | (refine region_drew (by kernel_rfl) (by kernel_rfl) ?_; (repeat (go_big_quiet_step (exact in_drew (num17_any _ _)))); refine wpQuiet_nil ?_; rintro _ ⟨nq, rfl⟩) | fail)
  rw [HQ.out]
  exact ⟨rfl, Lib.hid (by repeat first | exact Ext.refl _ | assumption | refine Ext.drew ?_ | refine Ext.drewN ?_ _ | refine Ext.extBy ?_ _ | refine Ext.alloc ?_ _ | refine Ext.setCell ?_ (by simp; try omega) _ | (refine Ext.trans ?_ (by assumption)))⟩
end Go.Proofs.Ytkjgghbdpmkmoaa
namespace Go.Proofs.Ytkjgghbdpmkmoaa
open Go.RowKit
set_option linter.unusedSimpArgs false
set_option linter.unusedVariables false
set_option maxRecDepth 100000

section
variable {P : Program} {ops : Array Oper} {Q : Exit → Act → World → Prop} {md : Region.Mode} {S : World → Prop} {n : Nat} {R : Array Bool → Act → World → Prop}
/-- Whatever order is picked among the first n operations, f of them still to come; S behind each; R at their end. -/
def HeadS (P : Program) (md : Region.Mode) (ops : Array Oper) (Q : Exit → Act → World → Prop) (S : World → Prop) (n : Nat) (R : Array Bool → Act → World → Prop) : Nat → Array Bool → Act → World → Prop
  | 0, listed, a, w => R listed a w
  | f + 1, listed, a, w => HeadInv md ops n listed → Region.ready md ops listed ≠ [] ∧ ∀ i ∈ Region.ready md ops listed, i < n ∧ wpOp P ops Q i (fun a' w' => S w' ∧ HeadS P md ops Q S n R f (listed.setIfInBounds i true) a' w') a w
theorem any_of_headS {g : Nat} (hR : ∀ listed a w, R listed a w → wpAny P md ops Q g listed a w) :
    ∀ (f : Nat) (listed : Array Bool) (a : Act) (w : World), HeadInv md ops n listed → HeadS P md ops Q S n R f listed a w → wpAny P md ops Q (f + g) listed a w := by
  intro f
  induction f with
  | zero => intro listed a w _ h; rw [Nat.zero_add]; exact hR _ _ _ h
  | succ f ih =>
    intro listed a w inv h
    obtain ⟨h0, h1⟩ := h inv
    rw [show f + 1 + g = (f + g) + 1 from by omega]
    exact ⟨fun e => absurd e h0, fun i hi => wpOp_mono (fun a' w' h' => ih _ a' w' (inv.set hi (h1 i hi).1) h'.2) (h1 i hi).2⟩
theorem headS_first {i : Nat} {oi : Oper} {v : Value} (hi : ops[i]? = some oi) (hsel : ∀ (j : Nat) (o : Oper) cs b, ops[j]? = some o → o.op ≠ .select cs b)
    (hQ : ∀ c a w, Q (.panic c) (a.put oi.dst v) w → Q (.panic c) a w) (hs : Region.sinkB md ops n = true) (hc : Region.chainB md ops n = true) (hn : n < ops.size) (hin : i < n)
    (hdone : ∀ listed a w, R listed a w → ∀ j ∈ Region.ready md ops listed, n ≤ j) :
    ∀ (f : Nat) (listed : Array Bool) (a : Act) (w : World),
      (∀ j oj, ops[j]? = some oj → j ≠ i → listed.getD j true = false → (∀ e ∈ oj.after, Region.binds md e = true → e.on ≠ i) → oi.apart ops oj = true) →
      i ∈ Region.ready md ops listed → YieldsIf P ops S oi v a → S w →
      HeadS P md ops Q S n R f (listed.setIfInBounds i true) (a.put oi.dst v) w → HeadS P md ops Q S n R (f + 1) listed a w := by
  intro f
  induction f with
  | zero =>
    intro listed a w _ hr hy hS H inv
    refine ⟨fun h => (by rw [h] at hr; cases hr), fun j hj => ?_⟩
    have hun := (mem_ready.1 hr).1
    by_cases hjn : j < n
    · refine ⟨hjn, ?_⟩
      by_cases hji : j = i
      · subst hji; exact hy.wpOp hi hS ⟨hS, H⟩
      · have := hdone _ _ _ H j (ready_mono hj hji)
        omega
    · exact absurd hj (tail_waits hs hc hn inv _ i rfl hin hun j (by omega))
  | succ f ih =>
    intro listed a w hfree hr hy hS H inv
    refine ⟨fun h => (by rw [h] at hr; cases hr), fun j hj => ?_⟩
    have hun := (mem_ready.1 hr).1
    by_cases hjn : j < n
    · refine ⟨hjn, ?_⟩
      by_cases hji : j = i
      · subst hji; exact hy.wpOp hi hS ⟨hS, H⟩
      · have h1 := ((H (inv.set hr hin)).2 j (ready_mono hj hji)).2
        obtain ⟨hjun, oj, hoj, hall⟩ := mem_ready.1 hj
        have hnot : ∀ e ∈ oj.after, Region.binds md e = true → e.on ≠ i := fun e he hb heq => by
          have h3 := hall e he hb
          rw [heq, getD_both hun] at h3
          cases h3
        have h2 := wpOp_putIf hoj (hfree j oj hoj hji hjun hnot) (fun cs b => hsel i oi cs b hi) (fun cs b => hsel j oj cs b hoj) hQ hy h1
        have hfree' : ∀ k ok, ops[k]? = some ok → k ≠ i → (listed.setIfInBounds j true).getD k true = false →
            (∀ e ∈ ok.after, Region.binds md e = true → e.on ≠ i) → oi.apart ops ok = true := fun k ok hk hki hun hno => by
          refine hfree k ok hk hki ?_ hno
          by_cases hjk : j = k
          · subst hjk; exact hjun
          · rw [getD_set_ne true hjk] at hun; exact hun
        refine wpOp_mono (fun a' w' h3 => ⟨h3.2.1, ih (listed.setIfInBounds j true) a' w' hfree' (ready_mono hr (Ne.symm hji)) h3.1 h3.2.1 ?_⟩) h2
        rw [Array.setIfInBounds_comm _ _ hji]
        exact h3.2.2
    · exact absurd hj (tail_waits hs hc hn inv _ i rfl hin hun j (by omega))
end
section
variable {P : Program} {l : List Oper} {Q : Exit → Act → World → Prop} {S : World → Prop} {n : Nat}
/-- The rest stands in one order. -/
def TailR (P : Program) (l : List Oper) (Q : Exit → Act → World → Prop) (n : Nat) (listed : Array Bool) (a : Act) (w : World) : Prop := Region.seqB .any l.toArray (l.length - n) n listed = true ∧ wpList P l.toArray Q (l.drop n) a w
def Hd (P : Program) (l : List Oper) (Q : Exit → Act → World → Prop) (S : World → Prop) (n : Nat) (f : Nat) (listed : Array Bool) (a : Act) (w : World) : Prop := HeadS P .any l.toArray Q S n (TailR P l Q n) f listed a w
def tailB (l : List Oper) (n : Nat) : Bool := Region.noSelect l.toArray && decide (n < l.length) && Region.sinkB .any l.toArray n && Region.chainB .any l.toArray n
/-- The beginning. -/
theorem hd_begin {id : Nat} {a : Act} {w : World} (n : Nat) (hm : P.follows .mixedOrders = true) (hB : tailB l n = true) (hS : S w.drew) (h : S w.drew → Hd P l Q S n n (Array.replicate l.length false) a w.drew) : (Code.region id l.toArray true).wp P Q a w := by
  simp only [tailB, Bool.and_eq_true, decide_eq_true_eq] at hB
  obtain ⟨⟨⟨_, hn⟩, _⟩, _⟩ := hB
  have inv0 : HeadInv .any l.toArray n (Array.replicate l.length false) :=
    ⟨by simp, fun j oj _ hl => (by rw [getD_replicate_false] at hl; cases hl), fun t _ ht => getD_in (by simpa using ht) (getD_replicate_false _ _)⟩
  have hdl : (l.drop n).length = l.length - n := by simp
  refine wp_region_any hm ?_
  have := any_of_headS (Q := Q) (S := S) (R := TailR P l Q n) (g := l.length - n) (fun listed a' w' hR => by
    have := wpAny_of_seq (md := .any) (Q' := Q) (l.drop n) n listed a' w' (fun j => by simp [List.getElem?_drop]) (by rw [hdl]; exact hR.1) hR.2
    rwa [hdl] at this) n _ a _ inv0 (h hS)
  rw [show n + (l.length - n) = l.toArray.size from by simp; omega] at this
  simpa using this
/-- Number i is taken first: it yields v in every world that meets S. -/
theorem hd_take {i f : Nat} {oi : Oper} {v : Value} {listed : Array Bool} {a : Act} {w : World} (hi : l[i]? = some oi) (hB : tailB l n = true) (hB2 : (decide (i < n) && Region.free .any l.toArray listed i && (Region.ready .any l.toArray listed).contains i) = true)
    (hQ : ∀ c a w, Q (.panic c) (a.put oi.dst v) w → Q (.panic c) a w) (hy : YieldsIf P l.toArray S oi v a) (hS : S w) (h : Hd P l Q S n f (listed.setIfInBounds i true) (a.put oi.dst v) w) : Hd P l Q S n (f + 1) listed a w := by
  simp only [tailB, Bool.and_eq_true, decide_eq_true_eq] at hB hB2
  obtain ⟨⟨⟨hsel, hn⟩, hs⟩, hc⟩ := hB
  obtain ⟨⟨hin, hf⟩, hr⟩ := hB2
  have hi' : l.toArray[i]? = some oi := by simpa using hi
  exact headS_first hi' (Region.noSelect_spec hsel) hQ hs hc (by simpa using hn) hin (fun _ _ _ hR => seqB_ready hR.1) f listed a w (Region.free_spec hi' hf) (by simpa using hr) hy hS h
/-- Number i alone may come up. -/
theorem hd_one {i f : Nat} {o : Oper} {listed : Array Bool} {a : Act} {w : World} (hi : l[i]? = some o) (hr : Region.ready .any l.toArray listed = [i]) (hin : i < n)
    (h : ∀ K' : Act → World → Prop, Shut (∀ a w, S w → (S w → Hd P l Q S n f (listed.setIfInBounds i true) a w) → K' a w) → if Region.wanted o (yielded l.toArray a.tmps) = true then Oper.wp P o a w K' Q else K' (a.put o.dst undef) w) : Hd P l Q S n (f + 1) listed a w := by
  intro _
  rw [hr]
  refine ⟨by simp, fun j hj => ?_⟩
  obtain rfl := List.mem_singleton.1 hj
  exact ⟨hin, wpOp_step (by simpa using hi) (fun K' hK => h K' (fun a w hS hW => hK a w ⟨hS, hW hS⟩))⟩
/-- The head is over. -/
theorem hd_end {listed : Array Bool} {a : Act} {w : World} (hB : Region.seqB .any l.toArray (l.length - n) n listed = true) (h : wpList P l.toArray Q (l.drop n) a w) : Hd P l Q S n 0 listed a w := ⟨hB, h⟩
end
end Go.Proofs.Ytkjgghbdpmkmoaa
namespace Go.Proofs.Ytkjgghbdpmkmoaa
open Go.RowKit Go.Maps
set_option linter.unusedSimpArgs false
set_option linter.unusedVariables false
set_option maxRecDepth 100000

set_option maxHeartbeats 8000000 in
theorem wrong_10 (w : World) : Calls Try.prog 3 #[.int .i64 ((10 : Nat) : Int)] w fun e w' => e = .returned (.bool true) ∧ Hid (Ext w w') := by
  obtain ⟨Q, hQ⟩ : ∃ Q, Q = fun e w' => e = Ending.returned (.bool true) ∧ Hid (Ext w w') := ⟨_, rfl⟩
  rw [← hQ]
  have HQ := Lib.hid hQ
  obtain ⟨x, hx⟩ : ∃ x, x = wantS 10 := ⟨_, rfl⟩
  have HA : Hid (AskS 10 x) := Lib.hid (by rw [hx]; exact ask_allS ⟨10, by omega⟩)
  have HX := Lib.hid hx
  clear hQ hx
  go_enter Try.func3, Try.ntmps3
  go_upto_region 6 with (first | (go_at_call 5; refine (alive17_any _).mono ?_; rintro e w1 ⟨rfl, H1⟩) | (go_at_call 6; refine (small_any _).mono ?_; rintro e w2 ⟨g, rfl, H2⟩) | fail)
  have HE : Hid (Ext w (w2.alloc (.cells (smA g) 28))) := Lib.hid (((H1.out.alloc _).trans H2.out.1).alloc _)
  have hbx : BoxV w2.heap.size (smA g).toList (w2.alloc (.cells (smA g) 28)) := BoxV.of_row (heap_alloc_last w2 _)
  have hlk : LikeS g smCs (smBs g) (w2.alloc (.cells (smA g) 28)) := H2.out.2.2.ext ((Ext.refl w2).alloc _)
  have htab : (w2.alloc (.cells (smA g) 28)).cell? ⟨w1.heap.size, 10, none⟩ = some (.int .i64 x) := by
    rw [HX.out]
    exact (H2.out.1.alloc _).cell (sm_want _ _ _ (heap_alloc_last w1 _) ⟨10, by omega⟩)
  have hgX : g + 7 < w2.heap.size := (Array.getElem?_eq_some_iff.1 H2.out.2.2.body).1
  have hTg : w1.heap.size < g := by
    have := H2.out.2.1
    simp at this
    omega
  have hwT := H1.out.size
  generalize (w2.alloc (.cells (smA g) 28)) = wb at HE hbx hlk htab ⊢
  generalize w2.heap.size = X at hbx hgX ⊢
  generalize w1.heap.size = T at htab hTg hwT ⊢
  have HW : Hid (∀ k ∈ [X, g + 2, g + 7], w.heap.size ≤ k ∧ T ≠ k) := Lib.hid (fun k hk => by
    simp only [List.mem_cons, List.not_mem_nil, or_false] at hk
    rcases hk with rfl | rfl | rfl <;> omega)
  have HLK := Lib.hid hlk
  have HBX := Lib.hid hbx
  have HT := Lib.hid htab
  have x0 := hbx.cells 0 _ rfl
  have x1 := hbx.cells 1 _ rfl
  have x2 := hbx.cells 2 _ rfl
  have x3 := hbx.cells 3 _ rfl
  have x4 := hbx.cells 4 _ rfl
  have xl := hbx.lt
  have xf := hbx.fz

  have n1 : ¬ (X = g + 7) := by omega
  have n2 : ¬ (g + 7 = X) := by omega
  have n3 : ¬ (X = g + 2) := by omega
  have n4 : ¬ (g + 2 = X) := by omega
  clear hlk hbx htab H1 H2 hwT
  go_upto_region 26 with fail
  refine wp_region_noPanic ?_
  refine hd_begin (S := fun w' => w'.cell? ⟨X, 4, none⟩ = some (.slice (some ⟨g + 7, 0, none⟩) 2 2)) 5 (by kernel_rfl) (by kernel_rfl) x4 (fun hHeld => ?_)
  have hxd : Ext wb wb.drew := (Ext.refl wb).drew
  generalize wb.drew = wd at hxd hHeld ⊢
  refine hd_take (i := 0) (v := .pointer (some ⟨X, 4, none⟩)) rfl (by kernel_rfl) (by kernel_rfl) (fun _ _ _ h => h) (Or.inl ⟨by rfl, fun w' hSw => by go_simp⟩) hHeld ?_
  try simp only [Act.put, List.setIfInBounds_toArray, List.set_cons_zero, List.set_cons_succ]
  refine hd_take (i := 1) (v := .slice (some ⟨g + 7, 0, none⟩) 2 2) rfl (by kernel_rfl) (by kernel_rfl) (fun _ _ _ h => h) (Or.inl ⟨by rfl, fun w' hSw => by go_simp⟩) hHeld ?_
  try simp only [Act.put, List.setIfInBounds_toArray, List.set_cons_zero, List.set_cons_succ]
  refine hd_one (i := 2) rfl (by kernel_rfl) (by decide) (fun K hK => ?_)
  go_simp
  go_at_call 7
  refine (name17_any bQ _).mono ?_
  rintro e wk ⟨rfl, hwk⟩
  have hxk : Ext wb wk := by rw [hwk]; exact hxd.alloc _
  clear hwk
  refine hK.out _ _ (hxk.cell x4) (fun hHeld => ?_)
  clear hK K
  try simp only [Act.put, List.setIfInBounds_toArray, List.set_cons_zero, List.set_cons_succ]
  refine hd_one (i := 3) rfl (by kernel_rfl) (by decide) (fun K hK => ?_)
  go_simp
  refine hK.out _ _ hHeld (fun hHeld => ?_)
  clear hK K
  try simp only [Act.put, List.setIfInBounds_toArray, List.set_cons_zero, List.set_cons_succ]
  refine hd_one (i := 4) rfl (by kernel_rfl) (by decide) (fun K hK => ?_)
  go_simp
  refine hK.out _ _ hHeld (fun hHeld => ?_)
  clear hK K
  try simp only [Act.put, List.setIfInBounds_toArray, List.set_cons_zero, List.set_cons_succ]
  refine hd_end (by kernel_rfl) ?_
  simp only [List.drop_succ_cons, List.drop_zero]
  have hbk : BoxV (g + 7) (smBs g).toList wk := BoxV.of_row (HLK.out.ext hxk).body
  have kl := hbk.lt
  have kf := hbk.fz
  have d12 := hbk.cells 12 _ rfl
  have d13 := hbk.cells 13 _ rfl
  have d14 := hbk.cells 14 _ rfl
  have d15 := hbk.cells 15 _ rfl
  have d16 := hbk.cells 16 _ rfl
  have d17 := hbk.cells 17 _ rfl
  have HXK := Lib.hid hxk
  have y0 := hxk.cell x0
  have y1 := hxk.cell x1
  have y2 := hxk.cell x2
  have y3 := hxk.cell x3
  have y4 := hxk.cell x4
  have yl := Nat.lt_of_lt_of_le xl hxk.size
  clear hbk hHeld x0 x1 x2 x3 x4 xl xf hxd hxk
  go_wp2_with fail
  refine NoPanic.normal ?_
  have HKB : Hid (Kb [X, g + 2, g + 7] wb (((((((wk.setCell ⟨g + 7, 12, none⟩ (.int .i64 2)).setCell ⟨g + 7, 13, none⟩ (.int .i64 0)).setCell ⟨g + 7, 14, none⟩ (.int .i64 0)).setCell ⟨g + 7, 15, none⟩ (.int .i64 0)).setCell ⟨g + 7, 16, none⟩ (.string bQ)).setCell ⟨g + 7, 17, none⟩ (NL)))) := Lib.hid ((Kb.of_ext HXK.out).trans ((((((Kb.set _ _ _ (by simp) _).trans (Kb.set _ _ _ (by simp) _)).trans (Kb.set _ _ _ (by simp) _)).trans (Kb.set _ _ _ (by simp) _)).trans (Kb.set _ _ _ (by simp) _)).trans (Kb.set _ _ _ (by simp) _)))
  have HL6 := Lib.hid ((HLK.out.ext HXK.out).six (.int .i64 2) (.int .i64 0) (.int .i64 0) (.int .i64 0) (.string bQ) (NL))
  have HS6 : Hid (SPIn (((((((wk.setCell ⟨g + 7, 12, none⟩ (.int .i64 2)).setCell ⟨g + 7, 13, none⟩ (.int .i64 0)).setCell ⟨g + 7, 14, none⟩ (.int .i64 0)).setCell ⟨g + 7, 15, none⟩ (.int .i64 0)).setCell ⟨g + 7, 16, none⟩ (.string bQ)).setCell ⟨g + 7, 17, none⟩ (NL))) (wrongS 10) (smX g)) := Lib.hid (HL6.out.two rfl)
  clear HL6
  go_upto_region 34 with (first | (go_at_call 8; refine (HA.out _ (smX g) (HS6.out)).mono ?_; rintro e3 w3 ⟨rfl, H3⟩) | fail)
  have hfin : Ext w w3 := (HKB.out.ext HE.out (fun k hk => (HW.out k hk).1)).trans H3.out
  have t3 := H3.out.cell (HKB.out.cell (S := [X, g + 2, g + 7]) (fun hm => (HW.out T hm).2 rfl) HT.out)
  have tl := World.block_lt_of_cell? _ _ t3
  clear y0 y1 y2 y3 y4 yl kl kf d12 d13 d14 d15 d16 d17 HKB H3 HA HLK HBX HE HW
  go_wp2_with (first | (refine region_drew (by kernel_rfl) (by kernel_rfl) ?_; (repeat (go_big_quiet_step (exact in_drew (num17_any _ _)))); refine wpQuiet_nil ?_; rintro _ ⟨nq, rfl⟩) | fail)
  rw [HQ.out]
  exact ⟨rfl, Lib.hid (by repeat first | exact Ext.refl _ | assumption | refine Ext.drew ?_ | refine Ext.drewN ?_ _ | refine Ext.extBy ?_ _ | refine Ext.alloc ?_ _ | refine Ext.setCell ?_ (by simp; try omega) _ | (refine Ext.trans ?_ (by assumption)))⟩
set_option maxHeartbeats 8000000 in
theorem wrong_5 (w : World) : Calls Try.prog 3 #[.int .i64 ((5 : Nat) : Int)] w fun e w' => e = .returned (.bool true) ∧ Hid (Ext w w') := by
  obtain ⟨Q, hQ⟩ : ∃ Q, Q = fun e w' => e = Ending.returned (.bool true) ∧ Hid (Ext w w') := ⟨_, rfl⟩
  rw [← hQ]
  have HQ := Lib.hid hQ
  obtain ⟨x, hx⟩ : ∃ x, x = wantS 5 := ⟨_, rfl⟩
  have HA : Hid (AskS 5 x) := Lib.hid (by rw [hx]; exact ask_allS ⟨5, by omega⟩)
  have HX := Lib.hid hx
  clear hQ hx
  go_enter Try.func3, Try.ntmps3
  go_upto_region 6 with (first | (go_at_call 5; refine (alive17_any _).mono ?_; rintro e w1 ⟨rfl, H1⟩) | (go_at_call 6; refine (small_any _).mono ?_; rintro e w2 ⟨g, rfl, H2⟩) | fail)
  have HE : Hid (Ext w (w2.alloc (.cells (smA g) 28))) := Lib.hid (((H1.out.alloc _).trans H2.out.1).alloc _)
  have hbx : BoxV w2.heap.size (smA g).toList (w2.alloc (.cells (smA g) 28)) := BoxV.of_row (heap_alloc_last w2 _)
  have hlk : LikeS g smCs (smBs g) (w2.alloc (.cells (smA g) 28)) := H2.out.2.2.ext ((Ext.refl w2).alloc _)
  have htab : (w2.alloc (.cells (smA g) 28)).cell? ⟨w1.heap.size, 5, none⟩ = some (.int .i64 x) := by
    rw [HX.out]
    exact (H2.out.1.alloc _).cell (sm_want _ _ _ (heap_alloc_last w1 _) ⟨5, by omega⟩)
  have hgX : g + 7 < w2.heap.size := (Array.getElem?_eq_some_iff.1 H2.out.2.2.body).1
  have hTg : w1.heap.size < g := by
    have := H2.out.2.1
    simp at this
    omega
  have hwT := H1.out.size
  generalize (w2.alloc (.cells (smA g) 28)) = wb at HE hbx hlk htab ⊢
  generalize w2.heap.size = X at hbx hgX ⊢
  generalize w1.heap.size = T at htab hTg hwT ⊢
  have HW : Hid (∀ k ∈ [X, g + 2, g + 7], w.heap.size ≤ k ∧ T ≠ k) := Lib.hid (fun k hk => by
    simp only [List.mem_cons, List.not_mem_nil, or_false] at hk
    rcases hk with rfl | rfl | rfl <;> omega)
  have HLK := Lib.hid hlk
  have HBX := Lib.hid hbx
  have HT := Lib.hid htab
  have x0 := hbx.cells 0 _ rfl
  have x1 := hbx.cells 1 _ rfl
  have x2 := hbx.cells 2 _ rfl
  have x3 := hbx.cells 3 _ rfl
  have x4 := hbx.cells 4 _ rfl
  have xl := hbx.lt
  have xf := hbx.fz

  have n1 : ¬ (X = g + 7) := by omega
  have n2 : ¬ (g + 7 = X) := by omega
  have n3 : ¬ (X = g + 2) := by omega
  have n4 : ¬ (g + 2 = X) := by omega
  clear hlk hbx htab H1 H2 hwT
  go_upto_region 16 with fail
  refine wp_region_noPanic ?_
  refine hd_begin (S := fun w' => w'.cell? ⟨X, 4, none⟩ = some (.slice (some ⟨g + 7, 0, none⟩) 2 2)) 7 (by kernel_rfl) (by kernel_rfl) x4 (fun hHeld => ?_)
  have hxd : Ext wb wb.drew := (Ext.refl wb).drew
  generalize wb.drew = wd at hxd hHeld ⊢
  refine hd_take (i := 0) (v := .pointer (some ⟨X, 4, none⟩)) rfl (by kernel_rfl) (by kernel_rfl) (fun _ _ _ h => h) (Or.inl ⟨by rfl, fun w' hSw => by go_simp⟩) hHeld ?_
  try simp only [Act.put, List.setIfInBounds_toArray, List.set_cons_zero, List.set_cons_succ]
  refine hd_take (i := 1) (v := .slice (some ⟨g + 7, 0, none⟩) 2 2) rfl (by kernel_rfl) (by kernel_rfl) (fun _ _ _ h => h) (Or.inl ⟨by rfl, fun w' hSw => by go_simp⟩) hHeld ?_
  try simp only [Act.put, List.setIfInBounds_toArray, List.set_cons_zero, List.set_cons_succ]
  refine hd_one (i := 2) rfl (by kernel_rfl) (by decide) (fun K hK => ?_)
  go_simp
  go_at_call 7
  refine (name17_any bX _).mono ?_
  rintro e wk ⟨rfl, hwk⟩
  have hxk : Ext wb wk := by rw [hwk]; exact hxd.alloc _
  clear hwk
  refine hK.out _ _ (hxk.cell x4) (fun hHeld => ?_)
  clear hK K
  try simp only [Act.put, List.setIfInBounds_toArray, List.set_cons_zero, List.set_cons_succ]
  refine hd_one (i := 3) rfl (by kernel_rfl) (by decide) (fun K hK => ?_)
  go_simp
  refine hK.out _ _ ((hxk.alloc _).cell x4) (fun hHeld => ?_)
  clear hK K
  try simp only [Act.put, List.setIfInBounds_toArray, List.set_cons_zero, List.set_cons_succ]
  have hbn : (wk.alloc (.cells #[.int .i64 2, .int .i64 0, .int .i64 0, .int .i64 0, .string bX, NL] 35)).heap[wk.heap.size]? = some (.cells #[.int .i64 2, .int .i64 0, .int .i64 0, .int .i64 0, .string bX, NL] 35 (0, 0)) := heap_alloc_last _ _
  have hsn : (wk.alloc (.cells #[.int .i64 2, .int .i64 0, .int .i64 0, .int .i64 0, .string bX, NL] 35)).heap.size = wk.heap.size + 1 := by simp
  have hxn : Ext wb (wk.alloc (.cells #[.int .i64 2, .int .i64 0, .int .i64 0, .int .i64 0, .string bX, NL] 35)) := hxk.alloc _
  generalize (wk.alloc (.cells #[.int .i64 2, .int .i64 0, .int .i64 0, .int .i64 0, .string bX, NL] 35)) = wn at hbn hsn hxn hHeld ⊢
  generalize hNN : wk.heap.size = N at hbn hsn ⊢
  refine hd_one (i := 4) rfl (by kernel_rfl) (by decide) (fun K hK => ?_)
  go_simp
  refine hK.out _ _ hHeld (fun hHeld => ?_)
  clear hK K
  try simp only [Act.put, List.setIfInBounds_toArray, List.set_cons_zero, List.set_cons_succ]
  refine hd_one (i := 5) rfl (by kernel_rfl) (by decide) (fun K hK => ?_)
  go_simp
  refine hK.out _ _ hHeld (fun hHeld => ?_)
  clear hK K
  try simp only [Act.put, List.setIfInBounds_toArray, List.set_cons_zero, List.set_cons_succ]
  refine hd_one (i := 6) rfl (by kernel_rfl) (by decide) (fun K hK => ?_)
  go_simp
  refine hK.out _ _ hHeld (fun hHeld => ?_)
  clear hK K
  try simp only [Act.put, List.setIfInBounds_toArray, List.set_cons_zero, List.set_cons_succ]
  refine hd_end (by kernel_rfl) ?_
  simp only [List.drop_succ_cons, List.drop_zero]
  have hbk : BoxV (g + 7) (smBs g).toList wn := BoxV.of_row (HLK.out.ext hxn).body
  have kl := hbk.lt
  have kf := hbk.fz
  have d12 := hbk.cells 12 _ rfl
  have d13 := hbk.cells 13 _ rfl
  have d14 := hbk.cells 14 _ rfl
  have d15 := hbk.cells 15 _ rfl
  have d16 := hbk.cells 16 _ rfl
  have d17 := hbk.cells 17 _ rfl
  have HXK := Lib.hid hxn
  have hkl := (HLK.out.ext hxk).body
  have HBN := Lib.hid hbn
  have HNG : Hid (N ≠ g + 7) := Lib.hid (fun e => by have := (Array.getElem?_eq_some_iff.1 hkl).1; omega)
  have y0 := hxn.cell x0
  have y1 := hxn.cell x1
  have y2 := hxn.cell x2
  have y3 := hxn.cell x3
  have y4 := hxn.cell x4
  have yl := Nat.lt_of_lt_of_le xl hxn.size
  clear hbk hHeld x0 x1 x2 x3 x4 xl xf hxd hxk hxn hkl hbn hsn hNN
  go_wp2_with fail
  refine NoPanic.normal ?_
  have HKB : Hid (Kb [X, g + 2, g + 7] wb (((((((wn.setCell ⟨g + 7, 12, none⟩ (.int .i64 9)).setCell ⟨g + 7, 13, none⟩ (.int .i64 0)).setCell ⟨g + 7, 14, none⟩ (.int .i64 0)).setCell ⟨g + 7, 15, none⟩ (.int .i64 1)).setCell ⟨g + 7, 16, none⟩ (.string bX)).setCell ⟨g + 7, 17, none⟩ (.slice (some ⟨N, 0, none⟩) 1 1)))) := Lib.hid ((Kb.of_ext HXK.out).trans ((((((Kb.set _ _ _ (by simp) _).trans (Kb.set _ _ _ (by simp) _)).trans (Kb.set _ _ _ (by simp) _)).trans (Kb.set _ _ _ (by simp) _)).trans (Kb.set _ _ _ (by simp) _)).trans (Kb.set _ _ _ (by simp) _)))
  have HL6 := Lib.hid ((HLK.out.ext HXK.out).six (.int .i64 9) (.int .i64 0) (.int .i64 0) (.int .i64 1) (.string bX) (.slice (some ⟨N, 0, none⟩) 1 1))
  have HS6 : Hid (SPIn (((((((wn.setCell ⟨g + 7, 12, none⟩ (.int .i64 9)).setCell ⟨g + 7, 13, none⟩ (.int .i64 0)).setCell ⟨g + 7, 14, none⟩ (.int .i64 0)).setCell ⟨g + 7, 15, none⟩ (.int .i64 1)).setCell ⟨g + 7, 16, none⟩ (.string bX)).setCell ⟨g + 7, 17, none⟩ (.slice (some ⟨N, 0, none⟩) 1 1))) (wrongS 5) (smX g)) := Lib.hid (HL6.out.twoK ((heap_setCell_other _ _ _ _ (by show N ≠ g + 7; exact HNG.out)).trans ((heap_setCell_other _ _ _ _ (by show N ≠ g + 7; exact HNG.out)).trans ((heap_setCell_other _ _ _ _ (by show N ≠ g + 7; exact HNG.out)).trans ((heap_setCell_other _ _ _ _ (by show N ≠ g + 7; exact HNG.out)).trans ((heap_setCell_other _ _ _ _ (by show N ≠ g + 7; exact HNG.out)).trans ((heap_setCell_other _ _ _ _ (by show N ≠ g + 7; exact HNG.out)).trans HBN.out)))))) rfl)
  clear HL6
  go_upto_region 34 with (first | (go_at_call 8; refine (HA.out _ (smX g) (HS6.out)).mono ?_; rintro e3 w3 ⟨rfl, H3⟩) | fail)
  have hfin : Ext w w3 := (HKB.out.ext HE.out (fun k hk => (HW.out k hk).1)).trans H3.out
  have t3 := H3.out.cell (HKB.out.cell (S := [X, g + 2, g + 7]) (fun hm => (HW.out T hm).2 rfl) HT.out)
  have tl := World.block_lt_of_cell? _ _ t3
  clear y0 y1 y2 y3 y4 yl kl kf d12 d13 d14 d15 d16 d17 HKB H3 HA HLK HBX HE HW
  go_wp2_with (first | (refine region_drew (by kernel_rfl) (by kernel_rfl) ?_; (repeat (go_big_quiet_step (exact in_drew (num17_any _ _)))); refine wpQuiet_nil ?_; rintro _ ⟨nq, rfl⟩) | fail)
  rw [HQ.out]
  exact ⟨rfl, Lib.hid (by repeat first | exact Ext.refl _ | assumption | refine Ext.drew ?_ | refine Ext.drewN ?_ _ | refine Ext.extBy ?_ _ | refine Ext.alloc ?_ _ | refine Ext.setCell ?_ (by simp; try omega) _ | (refine Ext.trans ?_ (by assumption)))⟩
end Go.Proofs.Ytkjgghbdpmkmoaa
namespace Go.Proofs.Ytkjgghbdpmkmoaa
open Go.RowKit Go.Maps
set_option linter.unusedSimpArgs false
set_option linter.unusedVariables false
set_option maxRecDepth 100000

set_option maxHeartbeats 8000000 in
theorem wrong_11 (w : World) : Calls Try.prog 3 #[.int .i64 ((11 : Nat) : Int)] w fun e w' => e = .returned (.bool true) ∧ Hid (Ext w w') := by
  obtain ⟨Q, hQ⟩ : ∃ Q, Q = fun e w' => e = Ending.returned (.bool true) ∧ Hid (Ext w w') := ⟨_, rfl⟩
  rw [← hQ]
  have HQ := Lib.hid hQ
  obtain ⟨x, hx⟩ : ∃ x, x = wantS 11 := ⟨_, rfl⟩
  have HA : Hid (AskS 11 x) := Lib.hid (by rw [hx]; exact ask_allS ⟨11, by omega⟩)
  have HX := Lib.hid hx
  clear hQ hx
  go_enter Try.func3, Try.ntmps3
  go_upto_region 6 with (first | (go_at_call 5; refine (alive17_any _).mono ?_; rintro e w1 ⟨rfl, H1⟩) | (go_at_call 6; refine (small_any _).mono ?_; rintro e w2 ⟨g, rfl, H2⟩) | fail)
  have HE : Hid (Ext w (w2.alloc (.cells (smA g) 28))) := Lib.hid (((H1.out.alloc _).trans H2.out.1).alloc _)
  have hbx : BoxV w2.heap.size (smA g).toList (w2.alloc (.cells (smA g) 28)) := BoxV.of_row (heap_alloc_last w2 _)
  have hlk : LikeS g smCs (smBs g) (w2.alloc (.cells (smA g) 28)) := H2.out.2.2.ext ((Ext.refl w2).alloc _)
  have htab : (w2.alloc (.cells (smA g) 28)).cell? ⟨w1.heap.size, 11, none⟩ = some (.int .i64 x) := by
    rw [HX.out]
    exact (H2.out.1.alloc _).cell (sm_want _ _ _ (heap_alloc_last w1 _) ⟨11, by omega⟩)
  have hgX : g + 7 < w2.heap.size := (Array.getElem?_eq_some_iff.1 H2.out.2.2.body).1
  have hTg : w1.heap.size < g := by
    have := H2.out.2.1
    simp at this
    omega
  have hwT := H1.out.size
  generalize (w2.alloc (.cells (smA g) 28)) = wb at HE hbx hlk htab ⊢
  generalize w2.heap.size = X at hbx hgX ⊢
  generalize w1.heap.size = T at htab hTg hwT ⊢
  have HW : Hid (∀ k ∈ [X, g + 2, g + 7], w.heap.size ≤ k ∧ T ≠ k) := Lib.hid (fun k hk => by
    simp only [List.mem_cons, List.not_mem_nil, or_false] at hk
    rcases hk with rfl | rfl | rfl <;> omega)
  have HLK := Lib.hid hlk
  have HBX := Lib.hid hbx
  have HT := Lib.hid htab
  have x0 := hbx.cells 0 _ rfl
  have x1 := hbx.cells 1 _ rfl
  have x2 := hbx.cells 2 _ rfl
  have x3 := hbx.cells 3 _ rfl
  have x4 := hbx.cells 4 _ rfl
  have xl := hbx.lt
  have xf := hbx.fz

  have n1 : ¬ (X = g + 7) := by omega
  have n2 : ¬ (g + 7 = X) := by omega
  have n3 : ¬ (X = g + 2) := by omega
  have n4 : ¬ (g + 2 = X) := by omega
  clear hlk hbx htab H1 H2 hwT
  go_upto_region 28 with fail
  refine wp_region_noPanic ?_
  refine hd_begin (S := fun w' => w'.cell? ⟨X, 4, none⟩ = some (.slice (some ⟨g + 7, 0, none⟩) 2 2)) 7 (by kernel_rfl) (by kernel_rfl) x4 (fun hHeld => ?_)
  have hxd : Ext wb wb.drew := (Ext.refl wb).drew
  generalize wb.drew = wd at hxd hHeld ⊢
  refine hd_take (i := 0) (v := .pointer (some ⟨X, 4, none⟩)) rfl (by kernel_rfl) (by kernel_rfl) (fun _ _ _ h => h) (Or.inl ⟨by rfl, fun w' hSw => by go_simp⟩) hHeld ?_
  try simp only [Act.put, List.setIfInBounds_toArray, List.set_cons_zero, List.set_cons_succ]
  refine hd_take (i := 1) (v := .slice (some ⟨g + 7, 0, none⟩) 2 2) rfl (by kernel_rfl) (by kernel_rfl) (fun _ _ _ h => h) (Or.inl ⟨by rfl, fun w' hSw => by go_simp⟩) hHeld ?_
  try simp only [Act.put, List.setIfInBounds_toArray, List.set_cons_zero, List.set_cons_succ]
  refine hd_one (i := 2) rfl (by kernel_rfl) (by decide) (fun K hK => ?_)
  go_simp
  go_at_call 7
  refine (name17_any bX _).mono ?_
  rintro e wk ⟨rfl, hwk⟩
  have hxk : Ext wb wk := by rw [hwk]; exact hxd.alloc _
  clear hwk
  refine hK.out _ _ (hxk.cell x4) (fun hHeld => ?_)
  clear hK K
  try simp only [Act.put, List.setIfInBounds_toArray, List.set_cons_zero, List.set_cons_succ]
  refine hd_one (i := 3) rfl (by kernel_rfl) (by decide) (fun K hK => ?_)
  go_simp
  refine hK.out _ _ hHeld (fun hHeld => ?_)
  clear hK K
  try simp only [Act.put, List.setIfInBounds_toArray, List.set_cons_zero, List.set_cons_succ]
  refine hd_one (i := 4) rfl (by kernel_rfl) (by decide) (fun K hK => ?_)
  go_simp
  refine hK.out _ _ ((hxk.alloc _).cell x4) (fun hHeld => ?_)
  clear hK K
  try simp only [Act.put, List.setIfInBounds_toArray, List.set_cons_zero, List.set_cons_succ]
  have hbn : (wk.alloc (.cells #[.int .i64 3, .string b0, .int .i64 2, .int .i64 0, .int .i64 0, .int .i64 0, .string bX, NL, NL, NL] 37)).heap[wk.heap.size]? = some (.cells #[.int .i64 3, .string b0, .int .i64 2, .int .i64 0, .int .i64 0, .int .i64 0, .string bX, NL, NL, NL] 37 (0, 0)) := heap_alloc_last _ _
  have hsn : (wk.alloc (.cells #[.int .i64 3, .string b0, .int .i64 2, .int .i64 0, .int .i64 0, .int .i64 0, .string bX, NL, NL, NL] 37)).heap.size = wk.heap.size + 1 := by simp
  have hxn : Ext wb (wk.alloc (.cells #[.int .i64 3, .string b0, .int .i64 2, .int .i64 0, .int .i64 0, .int .i64 0, .string bX, NL, NL, NL] 37)) := hxk.alloc _
  generalize (wk.alloc (.cells #[.int .i64 3, .string b0, .int .i64 2, .int .i64 0, .int .i64 0, .int .i64 0, .string bX, NL, NL, NL] 37)) = wn at hbn hsn hxn hHeld ⊢
  generalize hNN : wk.heap.size = N at hbn hsn ⊢
  have hxl := HLK.out.ext hxn
  have hwg : w.heap.size ≤ g + 7 := (HW.out (g + 7) (by simp)).1
  have hwn := HE.out.size
  have hsz := hxn.size
  refine hd_one (i := 5) rfl (by kernel_rfl) (by decide) (fun K hK => ?_)
  refine step_append_slc _ rfl (.tmp 90) (.tmp 93) 26 rfl w.heap.size 37 (.agg #[.int .i64 0, .string ⟨#[]⟩, .int .i64 0, .int .i64 0, .int .i64 0, .int .i64 0, .string ⟨#[]⟩, NL, NL, NL]) 10 144 Try.underlying26 infoStmt rfl (by decide) (.slice (some ⟨g + 7, 0, none⟩) 2 2) 2 (smBs g).toList rfl (own_block hxl.body hwg 2 rfl (by decide) _ rfl) _ 1 [.int .i64 3, .string b0, .int .i64 2, .int .i64 0, .int .i64 0, .int .i64 0, .string bX, NL, NL, NL] rfl (SlC.of_block hbn 1 1 _ (by decide) (by decide) rfl) rfl (by simp [Value.oneCell']) (by decide) (by decide) (by omega) ?_
  intro v3 w6 hown3 hg3 hat3
  obtain ⟨x9, y9, z9, rfl⟩ := own_slice3 hown3
  have hy : y9 = 3 := by
    obtain ⟨a', c', e, -⟩ := SlC.of_owns hown3
    simp at e
    exact e.2.1
  subst hy
  have hk6 : Kb [g + 7] wn w6 := Kb.grown hg3 (fun q hq => by simp [Value.ownBlock] at hq; simp [hq])
  have hb6 : BoxV X (smA g).toList w6 := (HBX.out.ext hxn).kb hk6 (by simp; omega)
  have HK6 := Lib.hid (And.intro hk6 (And.intro hxn (And.intro hxl hb6)))
  have HOW := Lib.hid (And.intro hown3 hat3)
  refine hK.out _ _ (hb6.cells 4 _ rfl) (fun hHeld => ?_)
  clear hK K hown3 hg3 hat3
  try simp only [Act.put, List.setIfInBounds_toArray, List.set_cons_zero, List.set_cons_succ]
  refine hd_one (i := 6) rfl (by kernel_rfl) (by decide) (fun K hK => ?_)
  go_simp
  refine hK.out _ _ hHeld (fun hHeld => ?_)
  clear hK K
  try simp only [Act.put, List.setIfInBounds_toArray, List.set_cons_zero, List.set_cons_succ]
  refine hd_end (by kernel_rfl) ?_
  simp only [List.drop_succ_cons, List.drop_zero]
  have y0 := hb6.cells 0 _ rfl
  have y1 := hb6.cells 1 _ rfl
  have y2 := hb6.cells 2 _ rfl
  have y3 := hb6.cells 3 _ rfl
  have y4 := hb6.cells 4 _ rfl
  have yl := hb6.lt
  have yf := hb6.fz
  have hXl := Nat.lt_of_lt_of_le xl hxn.size
  clear hb6 hk6 hxl hHeld x0 x1 x2 x3 x4 xl xf
  go_wp2_with fail
  refine NoPanic.normal ?_
  have hks : Kb [X] w6 (w6.setCell ⟨X, 4, none⟩ (.slice x9 3 z9)) := Kb.set _ _ _ (by simp) _
  have HKB : Hid (Kb [X, g + 2, g + 7] wb (w6.setCell ⟨X, 4, none⟩ (.slice x9 3 z9))) := Lib.hid (((Kb.of_ext HK6.out.2.1).trans (HK6.out.1.mono (by simp))).trans (hks.mono (by simp)))
  have hrow := hks.row HOW.out.1 (fun q hq e => by
    simp at hq
    subst hq
    rcases HOW.out.2 with h | h
    · rw [e] at h; simp [Value.ownBlock] at h; omega
    · rw [e] at h; simp at h; omega)
  have h0 : Lk0 g (w6.setCell ⟨X, 4, none⟩ (.slice x9 3 z9)) := ((Lk0.of HK6.out.2.2.1).kb HK6.out.1 (by simp)).kb hks (by simp; omega)

  have HS6 : Hid (SPIn (w6.setCell ⟨X, 4, none⟩ (.slice x9 3 z9)) (wrongS 11) ⟨.slice (some ⟨g, 0, none⟩) 1 1, .slice (some ⟨g + 1, 0, none⟩) 1 1, NL, .slice (some ⟨g + 2, 0, none⟩) 1 1, .slice x9 3 z9⟩) := Lib.hid (h0.sp ⟨[⟨.slice (some ⟨g + 5, 0, none⟩) 2 2, NL, NL⟩, ⟨NL, NL, NL⟩, ⟨NL, NL, NL⟩], SlC.of_owns hrow, SsIn.cons (SIn.mk h0.kin (BIn.nil _) (BIn.nil _)) (SsIn.cons (SIn.mk (KIn.leaf _ _ _ _ _ _) (BIn.nil _) (BIn.nil _)) (SsIn.cons (SIn.mk (KIn.leaf _ _ _ _ _ _) (BIn.nil _) (BIn.nil _)) (SsIn.nil _)))⟩)
  clear hrow h0 hks
  go_upto_region 34 with (first | (go_at_call 8; refine (HA.out _ ⟨.slice (some ⟨g, 0, none⟩) 1 1, .slice (some ⟨g + 1, 0, none⟩) 1 1, NL, .slice (some ⟨g + 2, 0, none⟩) 1 1, .slice x9 3 z9⟩ (HS6.out)).mono ?_; rintro e3 w3 ⟨rfl, H3⟩) | fail)
  have hfin : Ext w w3 := (HKB.out.ext HE.out (fun k hk => (HW.out k hk).1)).trans H3.out
  have t3 := H3.out.cell (HKB.out.cell (S := [X, g + 2, g + 7]) (fun hm => (HW.out T hm).2 rfl) HT.out)
  have tl := World.block_lt_of_cell? _ _ t3
  clear y0 y1 y2 y3 y4 yl yf HKB H3 HA HLK HBX HE HW
  go_wp2_with (first | (refine region_drew (by kernel_rfl) (by kernel_rfl) ?_; (repeat (go_big_quiet_step (exact in_drew (num17_any _ _)))); refine wpQuiet_nil ?_; rintro _ ⟨nq, rfl⟩) | fail)
  rw [HQ.out]
  exact ⟨rfl, Lib.hid (by repeat first | exact Ext.refl _ | assumption | refine Ext.drew ?_ | refine Ext.drewN ?_ _ | refine Ext.extBy ?_ _ | refine Ext.alloc ?_ _ | refine Ext.setCell ?_ (by simp; try omega) _ | (refine Ext.trans ?_ (by assumption)))⟩
set_option maxHeartbeats 8000000 in
theorem wrong_13 (w : World) : Calls Try.prog 3 #[.int .i64 ((13 : Nat) : Int)] w fun e w' => e = .returned (.bool true) ∧ Hid (Ext w w') := by
  obtain ⟨Q, hQ⟩ : ∃ Q, Q = fun e w' => e = Ending.returned (.bool true) ∧ Hid (Ext w w') := ⟨_, rfl⟩
  rw [← hQ]
  have HQ := Lib.hid hQ
  obtain ⟨x, hx⟩ : ∃ x, x = wantS 13 := ⟨_, rfl⟩
  have HA : Hid (AskS 13 x) := Lib.hid (by rw [hx]; exact ask_allS ⟨13, by omega⟩)
  have HX := Lib.hid hx
  clear hQ hx
  go_enter Try.func3, Try.ntmps3
  go_upto_region 6 with (first | (go_at_call 5; refine (alive17_any _).mono ?_; rintro e w1 ⟨rfl, H1⟩) | (go_at_call 6; refine (small_any _).mono ?_; rintro e w2 ⟨g, rfl, H2⟩) | fail)
  have HE : Hid (Ext w (w2.alloc (.cells (smA g) 28))) := Lib.hid (((H1.out.alloc _).trans H2.out.1).alloc _)
  have hbx : BoxV w2.heap.size (smA g).toList (w2.alloc (.cells (smA g) 28)) := BoxV.of_row (heap_alloc_last w2 _)
  have hlk : LikeS g smCs (smBs g) (w2.alloc (.cells (smA g) 28)) := H2.out.2.2.ext ((Ext.refl w2).alloc _)
  have htab : (w2.alloc (.cells (smA g) 28)).cell? ⟨w1.heap.size, 13, none⟩ = some (.int .i64 x) := by
    rw [HX.out]
    exact (H2.out.1.alloc _).cell (sm_want _ _ _ (heap_alloc_last w1 _) ⟨13, by omega⟩)
  have hgX : g + 7 < w2.heap.size := (Array.getElem?_eq_some_iff.1 H2.out.2.2.body).1
  have hTg : w1.heap.size < g := by
    have := H2.out.2.1
    simp at this
    omega
  have hwT := H1.out.size
  generalize (w2.alloc (.cells (smA g) 28)) = wb at HE hbx hlk htab ⊢
  generalize w2.heap.size = X at hbx hgX ⊢
  generalize w1.heap.size = T at htab hTg hwT ⊢
  have HW : Hid (∀ k ∈ [X, g + 2, g + 7], w.heap.size ≤ k ∧ T ≠ k) := Lib.hid (fun k hk => by
    simp only [List.mem_cons, List.not_mem_nil, or_false] at hk
    rcases hk with rfl | rfl | rfl <;> omega)
  have HLK := Lib.hid hlk
  have HBX := Lib.hid hbx
  have HT := Lib.hid htab
  have x0 := hbx.cells 0 _ rfl
  have x1 := hbx.cells 1 _ rfl
  have x2 := hbx.cells 2 _ rfl
  have x3 := hbx.cells 3 _ rfl
  have x4 := hbx.cells 4 _ rfl
  have xl := hbx.lt
  have xf := hbx.fz

  have n1 : ¬ (X = g + 7) := by omega
  have n2 : ¬ (g + 7 = X) := by omega
  have n3 : ¬ (X = g + 2) := by omega
  have n4 : ¬ (g + 2 = X) := by omega
  clear hlk hbx htab H1 H2 hwT
  go_upto_region 32 with fail
  refine wp_region_noPanic ?_
  refine hd_begin (S := fun w' => w'.cell? ⟨X, 4, none⟩ = some (.slice (some ⟨g + 7, 0, none⟩) 2 2)) 10 (by kernel_rfl) (by kernel_rfl) x4 (fun hHeld => ?_)
  have hxd : Ext wb wb.drew := (Ext.refl wb).drew
  generalize wb.drew = wd at hxd hHeld ⊢
  refine hd_take (i := 0) (v := .pointer (some ⟨X, 4, none⟩)) rfl (by kernel_rfl) (by kernel_rfl) (fun _ _ _ h => h) (Or.inl ⟨by rfl, fun w' hSw => by go_simp⟩) hHeld ?_
  try simp only [Act.put, List.setIfInBounds_toArray, List.set_cons_zero, List.set_cons_succ]
  refine hd_take (i := 1) (v := .slice (some ⟨g + 7, 0, none⟩) 2 2) rfl (by kernel_rfl) (by kernel_rfl) (fun _ _ _ h => h) (Or.inl ⟨by rfl, fun w' hSw => by go_simp⟩) hHeld ?_
  try simp only [Act.put, List.setIfInBounds_toArray, List.set_cons_zero, List.set_cons_succ]
  refine hd_take (i := 2) (v := .agg #[.int .i64 1, .int .i64 0, .int .i64 1, .int .i64 1, .string ⟨#[]⟩, .slice none 0 0]) rfl (by kernel_rfl) (by kernel_rfl) (fun _ _ _ h => h) (Or.inl ⟨by rfl, fun w' hSw => by go_simp⟩) hHeld ?_
  try simp only [Act.put, List.setIfInBounds_toArray, List.set_cons_zero, List.set_cons_succ]
  refine hd_one (i := 3) rfl (by kernel_rfl) (by decide) (fun K hK => ?_)
  go_simp
  go_at_call 7
  refine (name17_any bX _).mono ?_
  rintro e wk ⟨rfl, hwk⟩
  have hxk : Ext wb wk := by rw [hwk]; exact hxd.alloc _
  clear hwk
  refine hK.out _ _ (hxk.cell x4) (fun hHeld => ?_)
  clear hK K
  try simp only [Act.put, List.setIfInBounds_toArray, List.set_cons_zero, List.set_cons_succ]
  refine hd_one (i := 4) rfl (by kernel_rfl) (by decide) (fun K hK => ?_)
  go_simp
  refine hK.out _ _ hHeld (fun hHeld => ?_)
  clear hK K
  try simp only [Act.put, List.setIfInBounds_toArray, List.set_cons_zero, List.set_cons_succ]
  refine hd_one (i := 5) rfl (by kernel_rfl) (by decide) (fun K hK => ?_)
  go_simp
  refine hK.out _ _ ((hxk.alloc _).cell x4) (fun hHeld => ?_)
  clear hK K
  try simp only [Act.put, List.setIfInBounds_toArray, List.set_cons_zero, List.set_cons_succ]
  have hbn : (wk.alloc (.cells #[.int .i64 1, .string bY, .int .i64 2, .int .i64 0, .int .i64 0, .int .i64 0, .string bX, NL, NL, NL] 37)).heap[wk.heap.size]? = some (.cells #[.int .i64 1, .string bY, .int .i64 2, .int .i64 0, .int .i64 0, .int .i64 0, .string bX, NL, NL, NL] 37 (0, 0)) := heap_alloc_last _ _
  have hsn : (wk.alloc (.cells #[.int .i64 1, .string bY, .int .i64 2, .int .i64 0, .int .i64 0, .int .i64 0, .string bX, NL, NL, NL] 37)).heap.size = wk.heap.size + 1 := by simp
  have hxn : Ext wb (wk.alloc (.cells #[.int .i64 1, .string bY, .int .i64 2, .int .i64 0, .int .i64 0, .int .i64 0, .string bX, NL, NL, NL] 37)) := hxk.alloc _
  generalize (wk.alloc (.cells #[.int .i64 1, .string bY, .int .i64 2, .int .i64 0, .int .i64 0, .int .i64 0, .string bX, NL, NL, NL] 37)) = wn at hbn hsn hxn hHeld ⊢
  generalize hNN : wk.heap.size = N at hbn hsn ⊢
  have HSN := Lib.hid hsn
  clear hsn
  refine hd_one (i := 6) rfl (by kernel_rfl) (by decide) (fun K hK => ?_)
  go_simp
  refine hK.out _ _ hHeld (fun hHeld => ?_)
  clear hK K
  try simp only [Act.put, List.setIfInBounds_toArray, List.set_cons_zero, List.set_cons_succ]
  refine hd_one (i := 7) rfl (by kernel_rfl) (by decide) (fun K hK => ?_)
  go_simp
  refine hK.out _ _ ((hxn.alloc _).cell x4) (fun hHeld => ?_)
  clear hK K
  try simp only [Act.put, List.setIfInBounds_toArray, List.set_cons_zero, List.set_cons_succ]
  have hbm : (wn.alloc (.cells #[.int .i64 3, .string b0, .int .i64 1, .int .i64 0, .int .i64 1, .int .i64 1, .string b0, NL, .slice (some ⟨N, 0, none⟩) 1 1, NL] 37)).heap[wn.heap.size]? = some (.cells #[.int .i64 3, .string b0, .int .i64 1, .int .i64 0, .int .i64 1, .int .i64 1, .string b0, NL, .slice (some ⟨N, 0, none⟩) 1 1, NL] 37 (0, 0)) := heap_alloc_last _ _
  have hsm : (wn.alloc (.cells #[.int .i64 3, .string b0, .int .i64 1, .int .i64 0, .int .i64 1, .int .i64 1, .string b0, NL, .slice (some ⟨N, 0, none⟩) 1 1, NL] 37)).heap.size = wn.heap.size + 1 := by simp
  have hxm : Ext wb (wn.alloc (.cells #[.int .i64 3, .string b0, .int .i64 1, .int .i64 0, .int .i64 1, .int .i64 1, .string b0, NL, .slice (some ⟨N, 0, none⟩) 1 1, NL] 37)) := hxn.alloc _
  have hbn2 := ext_block ((Ext.refl wn).alloc (.cells #[.int .i64 3, .string b0, .int .i64 1, .int .i64 0, .int .i64 1, .int .i64 1, .string b0, NL, .slice (some ⟨N, 0, none⟩) 1 1, NL] 37)) hbn
  generalize (wn.alloc (.cells #[.int .i64 3, .string b0, .int .i64 1, .int .i64 0, .int .i64 1, .int .i64 1, .string b0, NL, .slice (some ⟨N, 0, none⟩) 1 1, NL] 37)) = wm at hbn2 hbm hsm hxm hHeld ⊢
  generalize hNM : wn.heap.size = M at hbm hsm ⊢
  have hNg : g + 7 < N := by have := (Array.getElem?_eq_some_iff.1 (HLK.out.ext hxk).body).1; omega
  have hNX : X < N := by have := Nat.lt_of_lt_of_le xl hxk.size; omega
  have hxl := HLK.out.ext hxm
  have hwg : w.heap.size ≤ g + 7 := (HW.out (g + 7) (by simp)).1
  have hwn := HE.out.size
  have hsz := hxm.size
  refine hd_one (i := 8) rfl (by kernel_rfl) (by decide) (fun K hK => ?_)
  refine step_append_slc _ rfl (.tmp 106) (.tmp 112) 26 rfl w.heap.size 37 (.agg #[.int .i64 0, .string ⟨#[]⟩, .int .i64 0, .int .i64 0, .int .i64 0, .int .i64 0, .string ⟨#[]⟩, NL, NL, NL]) 10 144 Try.underlying26 infoStmt rfl (by decide) (.slice (some ⟨g + 7, 0, none⟩) 2 2) 2 (smBs g).toList rfl (own_block hxl.body hwg 2 rfl (by decide) _ rfl) _ 1 [.int .i64 3, .string b0, .int .i64 1, .int .i64 0, .int .i64 1, .int .i64 1, .string b0, NL, .slice (some ⟨N, 0, none⟩) 1 1, NL] rfl (SlC.of_block hbm 1 1 _ (by decide) (by decide) rfl) rfl (by simp [Value.oneCell']) (by decide) (by decide) (by omega) ?_
  intro v3 w6 hown3 hg3 hat3
  obtain ⟨x9, y9, z9, rfl⟩ := own_slice3 hown3
  have hy : y9 = 3 := by
    obtain ⟨a', c', e, -⟩ := SlC.of_owns hown3
    simp at e
    exact e.2.1
  subst hy
  have hk6 : Kb [g + 7] wm w6 := Kb.grown hg3 (fun q hq => by simp [Value.ownBlock] at hq; simp [hq])
  have hb6 : BoxV X (smA g).toList w6 := (HBX.out.ext hxm).kb hk6 (by simp; omega)
  have HK6 := Lib.hid (And.intro hk6 (And.intro hxm (And.intro hxl hb6)))
  have HOW := Lib.hid (And.intro hown3 hat3)
  refine hK.out _ _ (hb6.cells 4 _ rfl) (fun hHeld => ?_)
  clear hK K hown3 hg3 hat3
  try simp only [Act.put, List.setIfInBounds_toArray, List.set_cons_zero, List.set_cons_succ]
  refine hd_one (i := 9) rfl (by kernel_rfl) (by decide) (fun K hK => ?_)
  go_simp
  refine hK.out _ _ hHeld (fun hHeld => ?_)
  clear hK K
  try simp only [Act.put, List.setIfInBounds_toArray, List.set_cons_zero, List.set_cons_succ]
  refine hd_end (by kernel_rfl) ?_
  simp only [List.drop_succ_cons, List.drop_zero]
  have y0 := hb6.cells 0 _ rfl
  have y1 := hb6.cells 1 _ rfl
  have y2 := hb6.cells 2 _ rfl
  have y3 := hb6.cells 3 _ rfl
  have y4 := hb6.cells 4 _ rfl
  have yl := hb6.lt
  have yf := hb6.fz
  have hXl := Nat.lt_of_lt_of_le xl hxm.size
  clear hb6 hk6 hxl hHeld x0 x1 x2 x3 x4 xl xf
  go_wp2_with fail
  refine NoPanic.normal ?_
  have hks : Kb [X] w6 (w6.setCell ⟨X, 4, none⟩ (.slice x9 3 z9)) := Kb.set _ _ _ (by simp) _
  have HKB : Hid (Kb [X, g + 2, g + 7] wb (w6.setCell ⟨X, 4, none⟩ (.slice x9 3 z9))) := Lib.hid (((Kb.of_ext HK6.out.2.1).trans (HK6.out.1.mono (by simp))).trans (hks.mono (by simp)))
  have hrow := hks.row HOW.out.1 (fun q hq e => by
    simp at hq
    subst hq
    rcases HOW.out.2 with h | h
    · rw [e] at h; simp [Value.ownBlock] at h; omega
    · rw [e] at h; simp at h; omega)
  have h0 : Lk0 g (w6.setCell ⟨X, 4, none⟩ (.slice x9 3 z9)) := ((Lk0.of HK6.out.2.2.1).kb HK6.out.1 (by simp)).kb hks (by simp; omega)
  have hn1 : (w6.setCell ⟨X, 4, none⟩ (.slice x9 3 z9)).heap[N]? = some (.cells #[.int .i64 1, .string bY, .int .i64 2, .int .i64 0, .int .i64 0, .int .i64 0, .string bX, NL, NL, NL] 37 (0, 0)) := hks.heap (by simp; omega) (HK6.out.1.heap (by simp; omega) hbn2)
  have HS6 : Hid (SPIn (w6.setCell ⟨X, 4, none⟩ (.slice x9 3 z9)) (wrongS 13) ⟨.slice (some ⟨g, 0, none⟩) 1 1, .slice (some ⟨g + 1, 0, none⟩) 1 1, NL, .slice (some ⟨g + 2, 0, none⟩) 1 1, .slice x9 3 z9⟩) := Lib.hid (h0.sp ⟨[⟨.slice (some ⟨g + 5, 0, none⟩) 2 2, NL, NL⟩, ⟨NL, NL, NL⟩, ⟨NL, .slice (some ⟨N, 0, none⟩) 1 1, NL⟩], SlC.of_owns hrow, SsIn.cons (SIn.mk h0.kin (BIn.nil _) (BIn.nil _)) (SsIn.cons (SIn.mk (KIn.leaf _ _ _ _ _ _) (BIn.nil _) (BIn.nil _)) (SsIn.cons (SIn.mk (KIn.leaf _ _ _ _ _ _) ⟨[⟨NL, NL, NL⟩], SlC.of_block hn1 1 1 _ (by decide) (by decide) rfl, SsIn.cons (SIn.mk (KIn.leaf _ _ _ _ _ _) (BIn.nil _) (BIn.nil _)) (SsIn.nil _)⟩ (BIn.nil _)) (SsIn.nil _)))⟩)
  clear hrow h0 hks
  go_upto_region 34 with (first | (go_at_call 8; refine (HA.out _ ⟨.slice (some ⟨g, 0, none⟩) 1 1, .slice (some ⟨g + 1, 0, none⟩) 1 1, NL, .slice (some ⟨g + 2, 0, none⟩) 1 1, .slice x9 3 z9⟩ (HS6.out)).mono ?_; rintro e3 w3 ⟨rfl, H3⟩) | fail)
  have hfin : Ext w w3 := (HKB.out.ext HE.out (fun k hk => (HW.out k hk).1)).trans H3.out
  have t3 := H3.out.cell (HKB.out.cell (S := [X, g + 2, g + 7]) (fun hm => (HW.out T hm).2 rfl) HT.out)
  have tl := World.block_lt_of_cell? _ _ t3
  clear y0 y1 y2 y3 y4 yl yf HKB H3 HA HLK HBX HE HW
  go_wp2_with (first | (refine region_drew (by kernel_rfl) (by kernel_rfl) ?_; (repeat (go_big_quiet_step (exact in_drew (num17_any _ _)))); refine wpQuiet_nil ?_; rintro _ ⟨nq, rfl⟩) | fail)
  rw [HQ.out]
  exact ⟨rfl, Lib.hid (by repeat first | exact Ext.refl _ | assumption | refine Ext.drew ?_ | refine Ext.drewN ?_ _ | refine Ext.extBy ?_ _ | refine Ext.alloc ?_ _ | refine Ext.setCell ?_ (by simp; try omega) _ | (refine Ext.trans ?_ (by assumption)))⟩
end Go.Proofs.Ytkjgghbdpmkmoaa
namespace Go.Proofs.Ytkjgghbdpmkmoaa
open Go.RowKit Go.Maps
set_option linter.unusedSimpArgs false
set_option linter.unusedVariables false
set_option maxRecDepth 100000

theorem obcWrong_any (k : Int) (hk : I64 k) (w : World) : Calls Try.prog 3 #[.int .i64 k] w fun e w' => e = .returned (.bool true) ∧ Ext w w' := by
  have h : Calls Try.prog 3 #[.int .i64 k] w fun e w' => e = .returned (.bool true) ∧ Hid (Ext w w') := by
    by_cases hb : k < 0 ∨ 14 ≤ k
    · exact wrong_out k hk hb w
    · obtain ⟨j, rfl⟩ : ∃ j : Nat, k = (j : Int) := ⟨k.toNat, by omega⟩
      have hj : j < 14 := by omega
      rcases (show j = 0 ∨ j = 1 ∨ j = 2 ∨ j = 3 ∨ j = 4 ∨ j = 5 ∨ j = 6 ∨ j = 7 ∨ j = 8 ∨ j = 9 ∨ j = 10 ∨ j = 11 ∨ j = 12 ∨ j = 13 by omega) with rfl | rfl | rfl | rfl | rfl | rfl | rfl | rfl | rfl | rfl | rfl | rfl | rfl | rfl
      · exact wrong_0 w
      · exact wrong_1 w
      · exact wrong_2 w
      · exact wrong_3 w
      · exact wrong_4 w
      · exact wrong_5 w
      · exact wrong_6 w
      · exact wrong_7 w
      · exact wrong_8 w
      · exact wrong_9 w
      · exact wrong_10 w
      · exact wrong_11 w
      · exact wrong_12 w
      · exact wrong_13 w
  exact h.mono fun e w' hh => ⟨hh.1, hh.2.out⟩
end Go.Proofs.Ytkjgghbdpmkmoaa
