/-
  The law on what can be wrong with flat programs: its walk, some of its cases.
  No condition.
  The law on what can be wrong with flat programs: its walk, some of its cases.
  No condition.
  The law on what can be wrong with flat programs: its walk, some of its cases.
  No condition.
  The law on what can be wrong with flat programs: its walk, some of its cases.
  No condition.
  The law on what can be wrong with flat programs: what it computes is true.
  No condition.
-/
import Derived.Test.YtmommjagndadjaaJcW
import Derived.Test.YtmommjagndadjaaJcA
import Derived.ArgAppend
import Derived.Deep.RegionLawGrows
namespace Go.Proofs.Ytmommjagndadjaa
open Go.RowKit Go.Maps
set_option linter.unusedSimpArgs false
set_option linter.unusedVariables false
set_option maxRecDepth 100000

set_option maxHeartbeats 8000000 in
theorem wrongC_15 (w : World) : Calls Try.prog 6 #[.int .i64 ((15 : Nat) : Int)] w fun e w' => e = .returned (.bool true) ∧ Hid (Ext w w') := by
  obtain ⟨Q, hQ⟩ : ∃ Q, Q = fun e w' => e = Ending.returned (.bool true) ∧ Hid (Ext w w') := ⟨_, rfl⟩
  rw [← hQ]
  have HQ := Lib.hid hQ
  obtain ⟨x, hx⟩ : ∃ x, x = wantC 15 := ⟨_, rfl⟩
  have HA : Hid (AskC 15 x) := Lib.hid (by rw [hx]; exact ask_allC ⟨15, by omega⟩)
  have HX := Lib.hid hx
  clear hQ hx
  go_enter Try.func6, Try.ntmps6
  go_upto_region 7 with (first | (go_at_call 14; refine (alive13_any _).mono ?_; rintro e w1 ⟨rfl, H1⟩) | (go_at_call 18; refine (smallC_any _).mono ?_; rintro e w2 ⟨g, rfl, H2⟩) | (go_at_call 19; refine (var13_any _ _).mono ?_; rintro e w3 ⟨rfl, rfl⟩) | fail)
  obtain ⟨wa, hwa⟩ : ∃ z, z = w2.alloc (.cells (smCA g) 26) := ⟨_, rfl⟩
  have hea : Ext w wa := by rw [hwa]; exact ((H1.out.alloc _).trans H2.out.1).alloc _
  have hba : BoxV w2.heap.size (smCA g).toList wa := by rw [hwa]; exact BoxV.of_row (heap_alloc_last w2 _)
  have hla : LikeD g smOs smLs (smQs g) wa := by rw [hwa]; exact (H2.out.2.2.ext ((Ext.refl w2).alloc _)).d
  have hsa : wa.heap.size = w2.heap.size + 1 := by rw [hwa]; simp
  have hta : wa.cell? ⟨w1.heap.size, 15, none⟩ = some (.int .i64 x) := by
    rw [HX.out, hwa]
    exact (H2.out.1.alloc _).cell (want_at _ _ _ (heap_alloc_last w1 _) ⟨15, by omega⟩)
  rw [← hwa]
  have hgX : g + 6 < w2.heap.size := (Array.getElem?_eq_some_iff.1 H2.out.2.2.eqs).1
  have hTg : w1.heap.size < g := by
    have := H2.out.2.1
    simp at this
    omega
  have hwT := H1.out.size
  generalize w2.heap.size = X at hba hsa hgX ⊢
  generalize w1.heap.size = T at hta hTg hwT ⊢
  obtain ⟨wb, hwb⟩ : ∃ z, z = (wa.alloc (.cells #[.int .i64 2, .int .i64 0, .int .i64 0, .int .i64 0, .string nX, NLc] 33)).alloc (.cells #[.int .i64 2, .int .i64 0, .int .i64 0, .int .i64 0, .string nX, .slice none 0 0] 33) := ⟨_, rfl⟩
  have hxab : Ext wa wb := by rw [hwb]; exact ((Ext.refl wa).alloc _).alloc _
  have hby : BoxV (X + 1 + 1) [.int .i64 2, .int .i64 0, .int .i64 0, .int .i64 0, .string nX, NLc] wb := by
    rw [hwb]
    refine BoxV.of_row (e := 33) (cs := #[.int .i64 2, .int .i64 0, .int .i64 0, .int .i64 0, .string nX, NLc]) ?_
    exact heap_alloc_at _ _ _ (by simp [hsa])
  rw [← hwb]
  have HE : Hid (Ext w wb) := Lib.hid (hea.trans hxab)
  have hbx := hba.ext hxab
  have hlk := hla.ext hxab
  have htab := hxab.cell hta
  have HW : Hid (∀ k ∈ [X, g + 1, g + 2, g + 6], w.heap.size ≤ k ∧ T ≠ k) := Lib.hid (fun k hk => by
    simp only [List.mem_cons, List.not_mem_nil, or_false] at hk
    rcases hk with rfl | rfl | rfl | rfl <;> omega)
  have HLK := Lib.hid hlk
  have HBX := Lib.hid hbx
  have HBY := Lib.hid hby
  have HT := Lib.hid htab
  have x0 := hbx.cells 0 _ rfl
  have x1 := hbx.cells 1 _ rfl
  have x2 := hbx.cells 2 _ rfl
  have x3 := hbx.cells 3 _ rfl
  have xl := hbx.lt
  have xf := hbx.fz

  have n1 : ¬ (X = g + 6) := by omega
  have n2 : ¬ (g + 6 = X) := by omega
  have n3 : ¬ (X = g + 2) := by omega
  have n4 : ¬ (g + 2 = X) := by omega
  have n5 : ¬ (X = g + 1) := by omega
  have n6 : ¬ (g + 1 = X) := by omega
  clear hwa hea hba hla hsa hta hwb hxab hby hlk hbx htab H1 H2 hwT
  go_upto_region 37 with fail
  refine wp_region_noPanic ?_
  refine hd_begin (S := fun w' => w'.cell? ⟨X, 3, none⟩ = some (.slice (some ⟨g + 6, 0, none⟩) 2 2)) 5 (by kernel_rfl) (by kernel_rfl) x3 (fun hHeld => ?_)
  have hxd : Ext wb wb.drew := (Ext.refl wb).drew
  generalize wb.drew = wd at hxd hHeld ⊢
  refine hd_take (i := 0) (v := .pointer (some ⟨X, 3, none⟩)) rfl (by kernel_rfl) (by kernel_rfl) (fun _ _ _ h => h) (Or.inl ⟨by rfl, fun w' hSw => by ((try dsimp only at hSw); go_simp)⟩) hHeld ?_
  try simp only [Act.put, List.setIfInBounds_toArray, List.set_cons_zero, List.set_cons_succ]
  refine hd_take (i := 1) (v := .slice (some ⟨g + 6, 0, none⟩) 2 2) rfl (by kernel_rfl) (by kernel_rfl) (fun _ _ _ h => h) (Or.inl ⟨by rfl, fun w' hSw => by ((try dsimp only at hSw); go_simp)⟩) hHeld ?_
  try simp only [Act.put, List.setIfInBounds_toArray, List.set_cons_zero, List.set_cons_succ]
  refine hd_one (i := 2) rfl (by kernel_rfl) (by decide) (fun K hK => ?_)
  go_simp
  go_at_call 19
  refine (var13_any nY _).mono ?_
  rintro e wk ⟨rfl, hwk⟩
  have hxk : Ext wb wk := by rw [hwk]; exact hxd.alloc _
  clear hwk
  refine hK.out _ _ (hxk.cell x3) (fun hHeld => ?_)
  clear hK K
  try simp only [Act.put, List.setIfInBounds_toArray, List.set_cons_zero, List.set_cons_succ]
  refine hd_one (i := 3) rfl (by kernel_rfl) (by decide) (fun K hK => ?_)
  go_simp
  refine hK.out _ _ hHeld (fun hHeld => ?_)
  clear hK K
  try simp only [Act.put, List.setIfInBounds_toArray, List.set_cons_zero, List.set_cons_succ]
  refine hd_one (i := 4) rfl (by kernel_rfl) (by decide) (fun K hK => ?_)
  go_simp
  refine hK.out _ _ hHeld (fun hHeld => ?_)
  clear hK K
  try simp only [Act.put, List.setIfInBounds_toArray, List.set_cons_zero, List.set_cons_succ]
  refine hd_end (by kernel_rfl) ?_
  simp only [List.drop_succ_cons, List.drop_zero]
  have hbk : BoxV (g + 6) (smQs g).toList wk := BoxV.of_row (HLK.out.ext hxk).eqs
  have kl := hbk.lt
  have kf := hbk.fz
  have d2 := hbk.cells 2 _ rfl
  have d3 := hbk.cells 3 _ rfl
  have d4 := hbk.cells 4 _ rfl
  have d5 := hbk.cells 5 _ rfl
  have d6 := hbk.cells 6 _ rfl
  have d7 := hbk.cells 7 _ rfl
  have HXK := Lib.hid hxk
  have y0 := hxk.cell x0
  have y1 := hxk.cell x1
  have y2 := hxk.cell x2
  have y3 := hxk.cell x3
  have yl := Nat.lt_of_lt_of_le xl hxk.size
  clear hbk hHeld x0 x1 x2 x3 xl xf hxd hxk
  go_wp2_with fail
  refine NoPanic.normal ?_
  have HKB : Hid (Kb [X, g + 1, g + 2, g + 6] wb (((((((wk.setCell ⟨g + 6, 2, none⟩ (.int .i64 2)).setCell ⟨g + 6, 3, none⟩ (.int .i64 0)).setCell ⟨g + 6, 4, none⟩ (.int .i64 0)).setCell ⟨g + 6, 5, none⟩ (.int .i64 0)).setCell ⟨g + 6, 6, none⟩ (.string nY)).setCell ⟨g + 6, 7, none⟩ (.slice none 0 0)))) := Lib.hid ((Kb.of_ext HXK.out).trans ((((((Kb.set _ _ _ (by simp) _).trans (Kb.set _ _ _ (by simp) _)).trans (Kb.set _ _ _ (by simp) _)).trans (Kb.set _ _ _ (by simp) _)).trans (Kb.set _ _ _ (by simp) _)).trans (Kb.set _ _ _ (by simp) _)))
  have HL6 := Lib.hid (((((((HLK.out.ext HXK.out).qset 2 (.int .i64 2)).qset 3 (.int .i64 0)).qset 4 (.int .i64 0)).qset 5 (.int .i64 0)).qset 6 (.string nY)).qset 7 (.slice none 0 0))
  have HS6 : Hid (CPIn (((((((wk.setCell ⟨g + 6, 2, none⟩ (.int .i64 2)).setCell ⟨g + 6, 3, none⟩ (.int .i64 0)).setCell ⟨g + 6, 4, none⟩ (.int .i64 0)).setCell ⟨g + 6, 5, none⟩ (.int .i64 0)).setCell ⟨g + 6, 6, none⟩ (.string nY)).setCell ⟨g + 6, 7, none⟩ (.slice none 0 0))) (wrongC 15) (smX4 g)) := Lib.hid (HL6.out.cp (q0 := defE nY (exV nY)) (q1 := sm1) (KIn.none _ _ _ _ _ _) (KIn.none _ _ _ _ _ _) (by kernel_rfl))
  clear HL6
  go_upto_region 53 with (first | (go_at_call 20; refine (HA.out _ (smX4 g) (HS6.out)).mono ?_; rintro e3 w3 ⟨rfl, H3⟩) | fail)
  have hfin : Ext w w3 := (HKB.out.ext HE.out (fun k hk => (HW.out k hk).1)).trans H3.out
  have t3 := H3.out.cell (HKB.out.cell (S := [X, g + 1, g + 2, g + 6]) (fun hm => (HW.out T hm).2 rfl) HT.out)
  have tl := World.block_lt_of_cell? _ _ t3
  clear y0 y1 y2 y3 yl kl kf d2 d3 d4 d5 d6 d7 HKB H3 HA HLK HBX HBY HE HW
  go_wp2_with (first | (refine region_drew (by kernel_rfl) (by kernel_rfl) ?_; (repeat (go_big_quiet_step (exact in_drew (num13_any _ _)))); refine wpQuiet_nil ?_; rintro _ ⟨nq, rfl⟩) | fail)
  rw [HQ.out]
  exact ⟨rfl, Lib.hid (by repeat first | exact Ext.refl _ | assumption | refine Ext.drew ?_ | refine Ext.drewN ?_ _ | refine Ext.extBy ?_ _ | refine Ext.alloc ?_ _ | refine Ext.setCell ?_ (by simp; try omega) _ | (refine Ext.trans ?_ (by assumption)))⟩
set_option maxHeartbeats 8000000 in
theorem wrongC_8 (w : World) : Calls Try.prog 6 #[.int .i64 ((8 : Nat) : Int)] w fun e w' => e = .returned (.bool true) ∧ Hid (Ext w w') := by
  obtain ⟨Q, hQ⟩ : ∃ Q, Q = fun e w' => e = Ending.returned (.bool true) ∧ Hid (Ext w w') := ⟨_, rfl⟩
  rw [← hQ]
  have HQ := Lib.hid hQ
  obtain ⟨x, hx⟩ : ∃ x, x = wantC 8 := ⟨_, rfl⟩
  have HA : Hid (AskC 8 x) := Lib.hid (by rw [hx]; exact ask_allC ⟨8, by omega⟩)
  have HX := Lib.hid hx
  clear hQ hx
  go_enter Try.func6, Try.ntmps6
  go_upto_region 7 with (first | (go_at_call 14; refine (alive13_any _).mono ?_; rintro e w1 ⟨rfl, H1⟩) | (go_at_call 18; refine (smallC_any _).mono ?_; rintro e w2 ⟨g, rfl, H2⟩) | (go_at_call 19; refine (var13_any _ _).mono ?_; rintro e w3 ⟨rfl, rfl⟩) | fail)
  obtain ⟨wa, hwa⟩ : ∃ z, z = w2.alloc (.cells (smCA g) 26) := ⟨_, rfl⟩
  have hea : Ext w wa := by rw [hwa]; exact ((H1.out.alloc _).trans H2.out.1).alloc _
  have hba : BoxV w2.heap.size (smCA g).toList wa := by rw [hwa]; exact BoxV.of_row (heap_alloc_last w2 _)
  have hla : LikeD g smOs smLs (smQs g) wa := by rw [hwa]; exact (H2.out.2.2.ext ((Ext.refl w2).alloc _)).d
  have hsa : wa.heap.size = w2.heap.size + 1 := by rw [hwa]; simp
  have hta : wa.cell? ⟨w1.heap.size, 8, none⟩ = some (.int .i64 x) := by
    rw [HX.out, hwa]
    exact (H2.out.1.alloc _).cell (want_at _ _ _ (heap_alloc_last w1 _) ⟨8, by omega⟩)
  rw [← hwa]
  have hgX : g + 6 < w2.heap.size := (Array.getElem?_eq_some_iff.1 H2.out.2.2.eqs).1
  have hTg : w1.heap.size < g := by
    have := H2.out.2.1
    simp at this
    omega
  have hwT := H1.out.size
  generalize w2.heap.size = X at hba hsa hgX ⊢
  generalize w1.heap.size = T at hta hTg hwT ⊢
  obtain ⟨wb, hwb⟩ : ∃ z, z = (wa.alloc (.cells #[.int .i64 2, .int .i64 0, .int .i64 0, .int .i64 0, .string nX, NLc] 33)).alloc (.cells #[.int .i64 2, .int .i64 0, .int .i64 0, .int .i64 0, .string nX, .slice none 0 0] 33) := ⟨_, rfl⟩
  have hxab : Ext wa wb := by rw [hwb]; exact ((Ext.refl wa).alloc _).alloc _
  have hby : BoxV (X + 1 + 1) [.int .i64 2, .int .i64 0, .int .i64 0, .int .i64 0, .string nX, NLc] wb := by
    rw [hwb]
    refine BoxV.of_row (e := 33) (cs := #[.int .i64 2, .int .i64 0, .int .i64 0, .int .i64 0, .string nX, NLc]) ?_
    exact heap_alloc_at _ _ _ (by simp [hsa])
  rw [← hwb]
  have HE : Hid (Ext w wb) := Lib.hid (hea.trans hxab)
  have hbx := hba.ext hxab
  have hlk := hla.ext hxab
  have htab := hxab.cell hta
  have HW : Hid (∀ k ∈ [X, g + 1, g + 2, g + 6], w.heap.size ≤ k ∧ T ≠ k) := Lib.hid (fun k hk => by
    simp only [List.mem_cons, List.not_mem_nil, or_false] at hk
    rcases hk with rfl | rfl | rfl | rfl <;> omega)
  have HLK := Lib.hid hlk
  have HBX := Lib.hid hbx
  have HBY := Lib.hid hby
  have HT := Lib.hid htab
  have x0 := hbx.cells 0 _ rfl
  have x1 := hbx.cells 1 _ rfl
  have x2 := hbx.cells 2 _ rfl
  have x3 := hbx.cells 3 _ rfl
  have xl := hbx.lt
  have xf := hbx.fz
  have hb : BoxV (g + 6) (smQs g).toList wb := BoxV.of_row hlk.eqs
  have bl := hb.lt
  have bf := hb.fz
  have b7 := hb.cells 7 _ rfl
  clear hb
  have n1 : ¬ (X = g + 6) := by omega
  have n2 : ¬ (g + 6 = X) := by omega
  have n3 : ¬ (X = g + 2) := by omega
  have n4 : ¬ (g + 2 = X) := by omega
  have n5 : ¬ (X = g + 1) := by omega
  have n6 : ¬ (g + 1 = X) := by omega
  clear hwa hea hba hla hsa hta hwb hxab hby hlk hbx htab H1 H2 hwT
  go_upto_region 23 with fail
  (refine region_drew_tail 12 (by kernel_rfl) (by kernel_rfl) ?_; simp only [List.take_succ_cons, List.take_zero, List.drop_succ_cons, List.drop_zero]; (repeat (go_big_quiet_step (fail))); refine wpQuiet_nil ?_; rintro _ ⟨nq, rfl⟩)
  have hxq : Ext wb (wb.drewN nq) := (Ext.refl wb).drewN nq
  have HXK := Lib.hid hxq
  have y0 := hxq.cell x0
  have y1 := hxq.cell x1
  have y2 := hxq.cell x2
  have y3 := hxq.cell x3
  have yl := Nat.lt_of_lt_of_le xl hxq.size
  have c7 := hxq.cell b7
  have cl := Nat.lt_of_lt_of_le bl hxq.size
  have hbk : BoxV (g + 6) (smQs g).toList (wb.drewN nq) := BoxV.of_row (HLK.out.ext hxq).eqs
  have cf := hbk.fz
  clear hbk x0 x1 x2 x3 xl xf b7 bl bf hxq
  have HL6 := Lib.hid ((HLK.out.ext HXK.out).qset 7 (.slice (some ⟨g + 5, 0, none⟩) 1 2))
  have HKB : Hid (Kb [X, g + 1, g + 2, g + 6] wb ((wb.drewN nq).setCell ⟨g + 6, 7, none⟩ (.slice (some ⟨g + 5, 0, none⟩) 1 2))) := Lib.hid ((Kb.of_ext HXK.out).trans (Kb.set _ _ _ (by simp) _))
  have HS6 : Hid (CPIn ((wb.drewN nq).setCell ⟨g + 6, 7, none⟩ (.slice (some ⟨g + 5, 0, none⟩) 1 2)) (wrongC 8) (smX4 g)) := Lib.hid (HL6.out.cp (q0 := defE nY (.mk 4 3 0 0 eB [exV nM])) (q1 := sm1) HL6.out.kin1 (KIn.none _ _ _ _ _ _) (by kernel_rfl))
  clear HL6
  go_upto_region 53 with (first | (go_at_call 20; refine (HA.out _ (smX4 g) (HS6.out)).mono ?_; rintro e3 w3 ⟨rfl, H3⟩) | fail)
  have hfin : Ext w w3 := (HKB.out.ext HE.out (fun k hk => (HW.out k hk).1)).trans H3.out
  have t3 := H3.out.cell (HKB.out.cell (S := [X, g + 1, g + 2, g + 6]) (fun hm => (HW.out T hm).2 rfl) HT.out)
  have tl := World.block_lt_of_cell? _ _ t3
  clear y0 y1 y2 y3 yl c7 cl cf HKB H3 HA HLK HBX HBY HE HW
  go_wp2_with (first | (refine region_drew (by kernel_rfl) (by kernel_rfl) ?_; (repeat (go_big_quiet_step (exact in_drew (num13_any _ _)))); refine wpQuiet_nil ?_; rintro _ ⟨nq, rfl⟩) | fail)
  rw [HQ.out]
  exact ⟨rfl, Lib.hid (by repeat first | exact Ext.refl _ | assumption | refine Ext.drew ?_ | refine Ext.drewN ?_ _ | refine Ext.extBy ?_ _ | refine Ext.alloc ?_ _ | refine Ext.setCell ?_ (by simp; try omega) _ | (refine Ext.trans ?_ (by assumption)))⟩
set_option maxHeartbeats 8000000 in
theorem wrongC_19 (w : World) : Calls Try.prog 6 #[.int .i64 ((19 : Nat) : Int)] w fun e w' => e = .returned (.bool true) ∧ Hid (Ext w w') := by
  obtain ⟨Q, hQ⟩ : ∃ Q, Q = fun e w' => e = Ending.returned (.bool true) ∧ Hid (Ext w w') := ⟨_, rfl⟩
  rw [← hQ]
  have HQ := Lib.hid hQ
  obtain ⟨x, hx⟩ : ∃ x, x = wantC 19 := ⟨_, rfl⟩
  have HA : Hid (AskC 19 x) := Lib.hid (by rw [hx]; exact ask_allC ⟨19, by omega⟩)
  have HX := Lib.hid hx
  clear hQ hx
  go_enter Try.func6, Try.ntmps6
  go_upto_region 7 with (first | (go_at_call 14; refine (alive13_any _).mono ?_; rintro e w1 ⟨rfl, H1⟩) | (go_at_call 18; refine (smallC_any _).mono ?_; rintro e w2 ⟨g, rfl, H2⟩) | (go_at_call 19; refine (var13_any _ _).mono ?_; rintro e w3 ⟨rfl, rfl⟩) | fail)
  obtain ⟨wa, hwa⟩ : ∃ z, z = w2.alloc (.cells (smCA g) 26) := ⟨_, rfl⟩
  have hea : Ext w wa := by rw [hwa]; exact ((H1.out.alloc _).trans H2.out.1).alloc _
  have hba : BoxV w2.heap.size (smCA g).toList wa := by rw [hwa]; exact BoxV.of_row (heap_alloc_last w2 _)
  have hla : LikeD g smOs smLs (smQs g) wa := by rw [hwa]; exact (H2.out.2.2.ext ((Ext.refl w2).alloc _)).d
  have hsa : wa.heap.size = w2.heap.size + 1 := by rw [hwa]; simp
  have hta : wa.cell? ⟨w1.heap.size, 19, none⟩ = some (.int .i64 x) := by
    rw [HX.out, hwa]
    exact (H2.out.1.alloc _).cell (want_at _ _ _ (heap_alloc_last w1 _) ⟨19, by omega⟩)
  rw [← hwa]
  have hgX : g + 6 < w2.heap.size := (Array.getElem?_eq_some_iff.1 H2.out.2.2.eqs).1
  have hTg : w1.heap.size < g := by
    have := H2.out.2.1
    simp at this
    omega
  have hwT := H1.out.size
  generalize w2.heap.size = X at hba hsa hgX ⊢
  generalize w1.heap.size = T at hta hTg hwT ⊢
  obtain ⟨wb, hwb⟩ : ∃ z, z = (wa.alloc (.cells #[.int .i64 2, .int .i64 0, .int .i64 0, .int .i64 0, .string nX, NLc] 33)).alloc (.cells #[.int .i64 2, .int .i64 0, .int .i64 0, .int .i64 0, .string nX, .slice none 0 0] 33) := ⟨_, rfl⟩
  have hxab : Ext wa wb := by rw [hwb]; exact ((Ext.refl wa).alloc _).alloc _
  have hby : BoxV (X + 1 + 1) [.int .i64 2, .int .i64 0, .int .i64 0, .int .i64 0, .string nX, NLc] wb := by
    rw [hwb]
    refine BoxV.of_row (e := 33) (cs := #[.int .i64 2, .int .i64 0, .int .i64 0, .int .i64 0, .string nX, NLc]) ?_
    exact heap_alloc_at _ _ _ (by simp [hsa])
  rw [← hwb]
  have HE : Hid (Ext w wb) := Lib.hid (hea.trans hxab)
  have hbx := hba.ext hxab
  have hlk := hla.ext hxab
  have htab := hxab.cell hta
  have HW : Hid (∀ k ∈ [X, g + 1, g + 2, g + 6], w.heap.size ≤ k ∧ T ≠ k) := Lib.hid (fun k hk => by
    simp only [List.mem_cons, List.not_mem_nil, or_false] at hk
    rcases hk with rfl | rfl | rfl | rfl <;> omega)
  have HLK := Lib.hid hlk
  have HBX := Lib.hid hbx
  have HBY := Lib.hid hby
  have HT := Lib.hid htab
  have x0 := hbx.cells 0 _ rfl
  have x1 := hbx.cells 1 _ rfl
  have x2 := hbx.cells 2 _ rfl
  have x3 := hbx.cells 3 _ rfl
  have xl := hbx.lt
  have xf := hbx.fz
  have hb : BoxV (g + 6) (smQs g).toList wb := BoxV.of_row hlk.eqs
  have bl := hb.lt
  have bf := hb.fz
  have b0 := hb.cells 0 _ rfl
  have b1 := hb.cells 1 _ rfl
  have b2 := hb.cells 2 _ rfl
  have b3 := hb.cells 3 _ rfl
  have b4 := hb.cells 4 _ rfl
  have b5 := hb.cells 5 _ rfl
  have b6 := hb.cells 6 _ rfl
  have b7 := hb.cells 7 _ rfl
  have b8 := hb.cells 8 _ rfl
  have b9 := hb.cells 9 _ rfl
  have b10 := hb.cells 10 _ rfl
  have b11 := hb.cells 11 _ rfl
  have b12 := hb.cells 12 _ rfl
  clear hb
  have n1 : ¬ (X = g + 6) := by omega
  have n2 : ¬ (g + 6 = X) := by omega
  have n3 : ¬ (X = g + 2) := by omega
  have n4 : ¬ (g + 2 = X) := by omega
  have n5 : ¬ (X = g + 1) := by omega
  have n6 : ¬ (g + 1 = X) := by omega
  clear hwa hea hba hla hsa hta hwb hxab hby hlk hbx htab H1 H2 hwT
  have HKB : Hid (Kb [X, g + 1, g + 2, g + 6] wb ((((((((wb.setCell ⟨g + 6, 2, none⟩ (.int .i64 10)).setCell ⟨g + 6, 3, none⟩ (.int .i64 0)).setCell ⟨g + 6, 4, none⟩ (.int .i64 0)).setCell ⟨g + 6, 5, none⟩ (.int .i64 0)).setCell ⟨g + 6, 6, none⟩ (.string nR)).setCell ⟨g + 6, 7, none⟩ (.slice (some ⟨wb.heap.size + 1, 0, none⟩) 2 2)).alloc (.cells #[.int .i64 2, .int .i64 0, .int .i64 0, .int .i64 0, .string nX, NLc] 33)).alloc (.cells #[.int .i64 9, .int .i64 0, .int .i64 0, .int .i64 1, .string nR, .slice (some ⟨wb.heap.size, 0, none⟩) 1 1, .int .i64 1, .int .i64 0, .int .i64 2, .int .i64 5, .string eB, NLc] 33))) := Lib.hid ((((((((Kb.set _ _ _ (by simp) _).trans (Kb.set _ _ _ (by simp) _)).trans (Kb.set _ _ _ (by simp) _)).trans (Kb.set _ _ _ (by simp) _)).trans (Kb.set _ _ _ (by simp) _)).trans (Kb.set _ _ _ (by simp) _)).trans (Kb.of_ext ((Ext.refl _).alloc _))).trans (Kb.of_ext ((Ext.refl _).alloc _)))
  have y0 := HBY.out.cells 0 _ rfl
  have y1 := HBY.out.cells 1 _ rfl
  have y2 := HBY.out.cells 2 _ rfl
  have y3 := HBY.out.cells 3 _ rfl
  have y4 := HBY.out.cells 4 _ rfl
  have y5 := HBY.out.cells 5 _ rfl
  have yl := HBY.out.lt
  have HL6 := Lib.hid (((((((HLK.out.qset 2 (.int .i64 10)).qset 3 (.int .i64 0)).qset 4 (.int .i64 0)).qset 5 (.int .i64 0)).qset 6 (.string nR)).qset 7 (.slice (some ⟨wb.heap.size + 1, 0, none⟩) 2 2)).ext (((Ext.refl _).alloc (.cells #[.int .i64 2, .int .i64 0, .int .i64 0, .int .i64 0, .string nX, NLc] 33)).alloc (.cells #[.int .i64 9, .int .i64 0, .int .i64 0, .int .i64 1, .string nR, .slice (some ⟨wb.heap.size, 0, none⟩) 1 1, .int .i64 1, .int .i64 0, .int .i64 2, .int .i64 5, .string eB, NLc] 33)))
  have hb1 : ((((((((wb.setCell ⟨g + 6, 2, none⟩ (.int .i64 10)).setCell ⟨g + 6, 3, none⟩ (.int .i64 0)).setCell ⟨g + 6, 4, none⟩ (.int .i64 0)).setCell ⟨g + 6, 5, none⟩ (.int .i64 0)).setCell ⟨g + 6, 6, none⟩ (.string nR)).setCell ⟨g + 6, 7, none⟩ (.slice (some ⟨wb.heap.size + 1, 0, none⟩) 2 2)).alloc (.cells #[.int .i64 2, .int .i64 0, .int .i64 0, .int .i64 0, .string nX, NLc] 33)).alloc (.cells #[.int .i64 9, .int .i64 0, .int .i64 0, .int .i64 1, .string nR, .slice (some ⟨wb.heap.size, 0, none⟩) 1 1, .int .i64 1, .int .i64 0, .int .i64 2, .int .i64 5, .string eB, NLc] 33)).heap[wb.heap.size]? = some (.cells #[.int .i64 2, .int .i64 0, .int .i64 0, .int .i64 0, .string nX, NLc] 33 (0, 0)) := by repeat (first | (refine heap_alloc_at _ _ _ ?_; simp; done) | (refine (Below.heap_alloc _ _ _ ?_).trans ?_; · simp))
  have hb2 : ((((((((wb.setCell ⟨g + 6, 2, none⟩ (.int .i64 10)).setCell ⟨g + 6, 3, none⟩ (.int .i64 0)).setCell ⟨g + 6, 4, none⟩ (.int .i64 0)).setCell ⟨g + 6, 5, none⟩ (.int .i64 0)).setCell ⟨g + 6, 6, none⟩ (.string nR)).setCell ⟨g + 6, 7, none⟩ (.slice (some ⟨wb.heap.size + 1, 0, none⟩) 2 2)).alloc (.cells #[.int .i64 2, .int .i64 0, .int .i64 0, .int .i64 0, .string nX, NLc] 33)).alloc (.cells #[.int .i64 9, .int .i64 0, .int .i64 0, .int .i64 1, .string nR, .slice (some ⟨wb.heap.size, 0, none⟩) 1 1, .int .i64 1, .int .i64 0, .int .i64 2, .int .i64 5, .string eB, NLc] 33)).heap[wb.heap.size + 1]? = some (.cells #[.int .i64 9, .int .i64 0, .int .i64 0, .int .i64 1, .string nR, .slice (some ⟨wb.heap.size, 0, none⟩) 1 1, .int .i64 1, .int .i64 0, .int .i64 2, .int .i64 5, .string eB, NLc] 33 (0, 0)) := heap_alloc_at _ _ _ (by simp)
  have hk1 : KIn ((((((((wb.setCell ⟨g + 6, 2, none⟩ (.int .i64 10)).setCell ⟨g + 6, 3, none⟩ (.int .i64 0)).setCell ⟨g + 6, 4, none⟩ (.int .i64 0)).setCell ⟨g + 6, 5, none⟩ (.int .i64 0)).setCell ⟨g + 6, 6, none⟩ (.string nR)).setCell ⟨g + 6, 7, none⟩ (.slice (some ⟨wb.heap.size + 1, 0, none⟩) 2 2)).alloc (.cells #[.int .i64 2, .int .i64 0, .int .i64 0, .int .i64 0, .string nX, NLc] 33)).alloc (.cells #[.int .i64 9, .int .i64 0, .int .i64 0, .int .i64 1, .string nR, .slice (some ⟨wb.heap.size, 0, none⟩) 1 1, .int .i64 1, .int .i64 0, .int .i64 2, .int .i64 5, .string eB, NLc] 33)) wrE (.slice (some ⟨wb.heap.size, 0, none⟩) 1 1) := kin_when _ _ _ _ _ hb1
  have hkn : KIn ((((((((wb.setCell ⟨g + 6, 2, none⟩ (.int .i64 10)).setCell ⟨g + 6, 3, none⟩ (.int .i64 0)).setCell ⟨g + 6, 4, none⟩ (.int .i64 0)).setCell ⟨g + 6, 5, none⟩ (.int .i64 0)).setCell ⟨g + 6, 6, none⟩ (.string nR)).setCell ⟨g + 6, 7, none⟩ (.slice (some ⟨wb.heap.size + 1, 0, none⟩) 2 2)).alloc (.cells #[.int .i64 2, .int .i64 0, .int .i64 0, .int .i64 0, .string nX, NLc] 33)).alloc (.cells #[.int .i64 9, .int .i64 0, .int .i64 0, .int .i64 1, .string nR, .slice (some ⟨wb.heap.size, 0, none⟩) 1 1, .int .i64 1, .int .i64 0, .int .i64 2, .int .i64 5, .string eB, NLc] 33)) wrG (.slice (some ⟨wb.heap.size + 1, 0, none⟩) 2 2) := KIn.of (kvs := [.slice (some ⟨wb.heap.size, 0, none⟩) 1 1, NLc]) (SlC.blk hb2 2 2 _ (by decide) (by decide) rfl) (KsIn.consc hk1 (KsIn.consc (KIn.none _ _ _ _ _ _) (KsIn.nilc _)))
  have HS6 : Hid (CPIn ((((((((wb.setCell ⟨g + 6, 2, none⟩ (.int .i64 10)).setCell ⟨g + 6, 3, none⟩ (.int .i64 0)).setCell ⟨g + 6, 4, none⟩ (.int .i64 0)).setCell ⟨g + 6, 5, none⟩ (.int .i64 0)).setCell ⟨g + 6, 6, none⟩ (.string nR)).setCell ⟨g + 6, 7, none⟩ (.slice (some ⟨wb.heap.size + 1, 0, none⟩) 2 2)).alloc (.cells #[.int .i64 2, .int .i64 0, .int .i64 0, .int .i64 0, .string nX, NLc] 33)).alloc (.cells #[.int .i64 9, .int .i64 0, .int .i64 0, .int .i64 1, .string nR, .slice (some ⟨wb.heap.size, 0, none⟩) 1 1, .int .i64 1, .int .i64 0, .int .i64 2, .int .i64 5, .string eB, NLc] 33)) (wrongC 19) (smX4 g)) := Lib.hid (HL6.out.cp (q0 := defE nY wrG) (q1 := sm1) hkn (KIn.none _ _ _ _ _ _) (by kernel_rfl))
  clear HL6 hkn hk1 hb1 hb2
  go_upto_region 53 with (first | (go_at_call 20; refine (HA.out _ (smX4 g) (HS6.out)).mono ?_; rintro e3 w3 ⟨rfl, H3⟩) | fail)
  have hfin : Ext w w3 := (HKB.out.ext HE.out (fun k hk => (HW.out k hk).1)).trans H3.out
  have t3 := H3.out.cell (HKB.out.cell (S := [X, g + 1, g + 2, g + 6]) (fun hm => (HW.out T hm).2 rfl) HT.out)
  have tl := World.block_lt_of_cell? _ _ t3
  clear x0 x1 x2 x3 xl xf HKB H3 HA HLK HBX HBY HE HW b0 b1 b2 b3 b4 b5 b6 b7 b8 b9 b10 b11 b12 bl bf y0 y1 y2 y3 y4 y5 yl
  go_wp2_with (first | (refine region_drew (by kernel_rfl) (by kernel_rfl) ?_; (repeat (go_big_quiet_step (exact in_drew (num13_any _ _)))); refine wpQuiet_nil ?_; rintro _ ⟨nq, rfl⟩) | fail)
  rw [HQ.out]
  exact ⟨rfl, Lib.hid (by repeat first | exact Ext.refl _ | assumption | refine Ext.drew ?_ | refine Ext.drewN ?_ _ | refine Ext.extBy ?_ _ | refine Ext.alloc ?_ _ | refine Ext.setCell ?_ (by simp; try omega) _ | (refine Ext.trans ?_ (by assumption)))⟩
end Go.Proofs.Ytmommjagndadjaa
namespace Go.Proofs.Ytmommjagndadjaa
open Go.RowKit Go.Maps
set_option linter.unusedSimpArgs false
set_option linter.unusedVariables false
set_option maxRecDepth 100000

theorem hold_blk {w : World} {g : Nat} {arr : Array Value} {e : TypeId} {fr : Nat × Nat} (h : w.heap[g]? = some (.cells arr e fr)) : ∀ b, some (⟨g, 0, none⟩ : Addr) = some b → ∀ j u, arr.toList[j]? = some u → w.cell? (b.add j) = some u := by
  rintro b hb j u hu
  cases hb
  rw [show (⟨g, 0, none⟩ : Addr).add j = ⟨g, j, none⟩ by (have h0 : (⟨g, 0, none⟩ : Addr).add j = ⟨g, 0 + j, none⟩ := by (simp [Addr.add]; omega)); rw [h0, Nat.zero_add]]
  rw [cell_of_row w g j _ _ _ h]
  simpa using hu
theorem ext_grown {w w' : World} (h : w.grownBy w' none) : Ext w w' := (Kb.grown (S := []) h (fun g hg => by cases hg)).ext (Ext.refl w) (fun k hk => by cases hk)
abbrev zQc : Value := .agg #[.int .i64 0, .string eB, .int .i64 0, .int .i64 0, .int .i64 0, .int .i64 0, .string eB, NLc, .int .i64 0, .string eB, .string eB, .int .i64 0, .int .i64 0]
theorem infoEq : (Try.prog.info? 35).map (fun i => (i.zero, i.size, i.bytes)) = some (some zQc, 13, 152) := by kernel_rfl
theorem two_vars {w : World} {v : Value} {n m : ByteArray} {k k2 : Int} (h : SlC w v 2 [.string n, .int .i64 k, NLc, .string m, .int .i64 k2, NLc]) : VRIn w v [⟨n, k, []⟩, ⟨m, k2, []⟩] :=
  ⟨[NLc, NLc], rfl, h, fun i y q h1 h2 => by
    rcases i with _ | _ | i
    · simp at h1 h2; subst h1 h2; exact EdIn.nil w
    · simp at h1 h2; subst h1 h2; exact EdIn.nil w
    · simp at h1⟩
theorem three_eqs {w : World} {v v0 v1 v2 : Value} {q0 q1 q2 : EQ} (h0 : KIn w q0.e v0) (h1 : KIn w q1.e v1) (h2 : KIn w q2.e v2) (h : SlC w v 3 (qCells [q0, q1, q2] [v0, v1, v2])) : QIn w v [q0, q1, q2] :=
  ⟨[v0, v1, v2], rfl, fun i q kv e1 e2 => by
    rcases i with _ | _ | _ | i
    · simp at e1 e2; subst e1 e2; exact h0
    · simp at e1 e2; subst e1 e2; exact h1
    · simp at e1 e2; subst e1 e2; exact h2
    · simp at e1, h⟩
set_option maxHeartbeats 8000000 in
theorem wrongC_1 (w : World) : Calls Try.prog 6 #[.int .i64 ((1 : Nat) : Int)] w fun e w' => e = .returned (.bool true) ∧ Hid (Ext w w') := by
  obtain ⟨Q, hQ⟩ : ∃ Q, Q = fun e w' => e = Ending.returned (.bool true) ∧ Hid (Ext w w') := ⟨_, rfl⟩
  rw [← hQ]
  have HQ := Lib.hid hQ
  obtain ⟨x, hx⟩ : ∃ x, x = wantC 1 := ⟨_, rfl⟩
  have HA : Hid (AskC 1 x) := Lib.hid (by rw [hx]; exact ask_allC ⟨1, by omega⟩)
  have HX := Lib.hid hx
  clear hQ hx
  go_enter Try.func6, Try.ntmps6
  go_upto_region 7 with (first | (go_at_call 14; refine (alive13_any _).mono ?_; rintro e w1 ⟨rfl, H1⟩) | (go_at_call 18; refine (smallC_any _).mono ?_; rintro e w2 ⟨g, rfl, H2⟩) | (go_at_call 19; refine (var13_any _ _).mono ?_; rintro e w3 ⟨rfl, rfl⟩) | fail)
  obtain ⟨wa, hwa⟩ : ∃ z, z = w2.alloc (.cells (smCA g) 26) := ⟨_, rfl⟩
  have hea : Ext w wa := by rw [hwa]; exact ((H1.out.alloc _).trans H2.out.1).alloc _
  have hba : BoxV w2.heap.size (smCA g).toList wa := by rw [hwa]; exact BoxV.of_row (heap_alloc_last w2 _)
  have hla : LikeD g smOs smLs (smQs g) wa := by rw [hwa]; exact (H2.out.2.2.ext ((Ext.refl w2).alloc _)).d
  have hsa : wa.heap.size = w2.heap.size + 1 := by rw [hwa]; simp
  have hta : wa.cell? ⟨w1.heap.size, 1, none⟩ = some (.int .i64 x) := by
    rw [HX.out, hwa]
    exact (H2.out.1.alloc _).cell (want_at _ _ _ (heap_alloc_last w1 _) ⟨1, by omega⟩)
  rw [← hwa]
  have hgX : g + 6 < w2.heap.size := (Array.getElem?_eq_some_iff.1 H2.out.2.2.eqs).1
  have hTg : w1.heap.size < g := by
    have := H2.out.2.1
    simp at this
    omega
  have hwT := H1.out.size
  generalize w2.heap.size = X at hba hsa hgX ⊢
  generalize w1.heap.size = T at hta hTg hwT ⊢
  obtain ⟨wb, hwb⟩ : ∃ z, z = (wa.alloc (.cells #[.int .i64 2, .int .i64 0, .int .i64 0, .int .i64 0, .string nX, NLc] 33)).alloc (.cells #[.int .i64 2, .int .i64 0, .int .i64 0, .int .i64 0, .string nX, .slice none 0 0] 33) := ⟨_, rfl⟩
  have hxab : Ext wa wb := by rw [hwb]; exact ((Ext.refl wa).alloc _).alloc _
  have hby : BoxV (X + 1 + 1) [.int .i64 2, .int .i64 0, .int .i64 0, .int .i64 0, .string nX, NLc] wb := by
    rw [hwb]
    refine BoxV.of_row (e := 33) (cs := #[.int .i64 2, .int .i64 0, .int .i64 0, .int .i64 0, .string nX, NLc]) ?_
    exact heap_alloc_at _ _ _ (by simp [hsa])
  rw [← hwb]
  have HE : Hid (Ext w wb) := Lib.hid (hea.trans hxab)
  have hbx := hba.ext hxab
  have hlk := hla.ext hxab
  have htab := hxab.cell hta
  have HW : Hid (∀ k ∈ [X, g + 1, g + 2, g + 6], w.heap.size ≤ k ∧ T ≠ k) := Lib.hid (fun k hk => by
    simp only [List.mem_cons, List.not_mem_nil, or_false] at hk
    rcases hk with rfl | rfl | rfl | rfl <;> omega)
  have HLK := Lib.hid hlk
  have HBX := Lib.hid hbx
  have HBY := Lib.hid hby
  have HT := Lib.hid htab
  have x0 := hbx.cells 0 _ rfl
  have x1 := hbx.cells 1 _ rfl
  have x2 := hbx.cells 2 _ rfl
  have x3 := hbx.cells 3 _ rfl
  have xl := hbx.lt
  have xf := hbx.fz

  have n1 : ¬ (X = g + 6) := by omega
  have n2 : ¬ (g + 6 = X) := by omega
  have n3 : ¬ (X = g + 2) := by omega
  have n4 : ¬ (g + 2 = X) := by omega
  have n5 : ¬ (X = g + 1) := by omega
  have n6 : ¬ (g + 1 = X) := by omega
  clear hwa hea hba hla hsa hta hwb hxab hby hlk hbx htab H1 H2 hwT
  obtain ⟨i0, h0, hz⟩ := Option.map_eq_some_iff.1 infoVar
  simp only [Prod.mk.injEq] at hz
  obtain ⟨hz0, hz1, hz2⟩ := hz
  have hnew := hold_blk (heap_alloc_last wb (.cells #[.string nX, .int .i64 2, NLc] 30)) _ rfl
  have hhold := hold_blk (ext_block ((Ext.refl wb).alloc (.cells #[.string nX, .int .i64 2, NLc] 30)) HLK.out.locals)
  have hone : ∀ u ∈ [Value.string nX, .int .i64 2, NLc], u.oneCell' = true := by simp [Value.oneCell']
  have H00 := Lib.hid (And.intro h0 (And.intro hz0 (And.intro hz1 hz2)))
  have HNW := Lib.hid (And.intro hnew (And.intro hhold hone))
  clear h0 hz0 hz1 hz2 hnew hhold hone
  go_upto_region 10 with (first | (at_builtin; (refine wpList_append_grows _ rfl (.tmp 29) (.tmp 31) 23 rfl 30 i0 zV 3 48 Try.underlying23 H00.out.1 H00.out.2.1 H00.out.2.2.1 H00.out.2.2.2 rfl (by decide) (some ⟨g + 2, 0, none⟩) 1 1 smLs.toList rfl (fun h => by cases h) rfl HNW.out.2.1 ⟨wb.heap.size, 0, none⟩ 1 1 [.string nX, .int .i64 2, NLc] rfl rfl HNW.out.1 HNW.out.2.2 (by decide) (by decide) (by decide) ?_; intro v' w6 ho hg; obtain ⟨x9, y9, z9, rfl⟩ := own_slice3 ho; obtain rfl : y9 = 2 := (by obtain ⟨a', c', e, -⟩ := SlC.of_owns ho; simp at e; exact e.2.1); have HP := Lib.hid (And.intro ho (((Ext.refl wb).alloc _).trans (ext_grown hg))); have b6 := HBX.out.ext HP.out.2; have y0 := b6.cells 0 _ rfl; have y1 := b6.cells 1 _ rfl; have y2 := b6.cells 2 _ rfl; have y3 := b6.cells 3 _ rfl; have yl := b6.lt; have yf := b6.fz; clear ho hg b6)) | fail)
  have hks : Kb [X] w6 (w6.setCell ⟨X, 2, none⟩ (.slice x9 2 z9)) := Kb.set _ _ _ (by simp) _
  have hrow := hks.row HP.out.1 (fun q hq e => by
    simp at hq
    subst hq
    have := (HP.out.1.lt q e).1
    simp at this
    omega)
  have hl6 := (HLK.out.ext HP.out.2).kb hks (by simp; omega)
  have hkb : Kb [X, g + 1, g + 2, g + 6] wb (w6.setCell ⟨X, 2, none⟩ (.slice x9 2 z9)) := (Kb.of_ext HP.out.2).trans (hks.mono (by simp))
  have HKB := Lib.hid hkb
  have HS6 : Hid (CPIn (w6.setCell ⟨X, 2, none⟩ (.slice x9 2 z9)) (wrongC 1) ⟨.slice (some ⟨g, 0, none⟩) 2 2, .slice (some ⟨g + 1, 0, none⟩) 1 1, .slice x9 2 z9, .slice (some ⟨g + 6, 0, none⟩) 2 2⟩) := Lib.hid ⟨hl6.insv, hl6.outsv, two_vars (SlC.of_owns hrow), hl6.eqsv⟩
  clear hkb hrow hl6 hks x0 x1 x2 x3 xl xf
  go_upto_region 53 with (first | (go_at_call 20; refine (HA.out _ ⟨.slice (some ⟨g, 0, none⟩) 2 2, .slice (some ⟨g + 1, 0, none⟩) 1 1, .slice x9 2 z9, .slice (some ⟨g + 6, 0, none⟩) 2 2⟩ (HS6.out)).mono ?_; rintro e3 w3 ⟨rfl, H3⟩) | fail)
  have hfin : Ext w w3 := (HKB.out.ext HE.out (fun k hk => (HW.out k hk).1)).trans H3.out
  have t3 := H3.out.cell (HKB.out.cell (S := [X, g + 1, g + 2, g + 6]) (fun hm => (HW.out T hm).2 rfl) HT.out)
  have tl := World.block_lt_of_cell? _ _ t3
  clear y0 y1 y2 y3 yl yf HKB H3 HA HLK HBX HBY HE HW
  go_wp2_with (first | (refine region_drew (by kernel_rfl) (by kernel_rfl) ?_; (repeat (go_big_quiet_step (exact in_drew (num13_any _ _)))); refine wpQuiet_nil ?_; rintro _ ⟨nq, rfl⟩) | fail)
  rw [HQ.out]
  exact ⟨rfl, Lib.hid (by repeat first | exact Ext.refl _ | assumption | refine Ext.drew ?_ | refine Ext.drewN ?_ _ | refine Ext.extBy ?_ _ | refine Ext.alloc ?_ _ | refine Ext.setCell ?_ (by simp; try omega) _ | (refine Ext.trans ?_ (by assumption)))⟩
end Go.Proofs.Ytmommjagndadjaa
namespace Go.Proofs.Ytmommjagndadjaa
open Go.RowKit Go.Maps
set_option linter.unusedSimpArgs false
set_option linter.unusedVariables false
set_option maxRecDepth 100000

set_option maxHeartbeats 8000000 in
theorem wrongC_2 (w : World) : Calls Try.prog 6 #[.int .i64 ((2 : Nat) : Int)] w fun e w' => e = .returned (.bool true) ∧ Hid (Ext w w') := by
  obtain ⟨Q, hQ⟩ : ∃ Q, Q = fun e w' => e = Ending.returned (.bool true) ∧ Hid (Ext w w') := ⟨_, rfl⟩
  rw [← hQ]
  have HQ := Lib.hid hQ
  obtain ⟨x, hx⟩ : ∃ x, x = wantC 2 := ⟨_, rfl⟩
  have HA : Hid (AskC 2 x) := Lib.hid (by rw [hx]; exact ask_allC ⟨2, by omega⟩)
  have HX := Lib.hid hx
  clear hQ hx
  go_enter Try.func6, Try.ntmps6
  go_upto_region 7 with (first | (go_at_call 14; refine (alive13_any _).mono ?_; rintro e w1 ⟨rfl, H1⟩) | (go_at_call 18; refine (smallC_any _).mono ?_; rintro e w2 ⟨g, rfl, H2⟩) | (go_at_call 19; refine (var13_any _ _).mono ?_; rintro e w3 ⟨rfl, rfl⟩) | fail)
  obtain ⟨wa, hwa⟩ : ∃ z, z = w2.alloc (.cells (smCA g) 26) := ⟨_, rfl⟩
  have hea : Ext w wa := by rw [hwa]; exact ((H1.out.alloc _).trans H2.out.1).alloc _
  have hba : BoxV w2.heap.size (smCA g).toList wa := by rw [hwa]; exact BoxV.of_row (heap_alloc_last w2 _)
  have hla : LikeD g smOs smLs (smQs g) wa := by rw [hwa]; exact (H2.out.2.2.ext ((Ext.refl w2).alloc _)).d
  have hsa : wa.heap.size = w2.heap.size + 1 := by rw [hwa]; simp
  have hta : wa.cell? ⟨w1.heap.size, 2, none⟩ = some (.int .i64 x) := by
    rw [HX.out, hwa]
    exact (H2.out.1.alloc _).cell (want_at _ _ _ (heap_alloc_last w1 _) ⟨2, by omega⟩)
  rw [← hwa]
  have hgX : g + 6 < w2.heap.size := (Array.getElem?_eq_some_iff.1 H2.out.2.2.eqs).1
  have hTg : w1.heap.size < g := by
    have := H2.out.2.1
    simp at this
    omega
  have hwT := H1.out.size
  generalize w2.heap.size = X at hba hsa hgX ⊢
  generalize w1.heap.size = T at hta hTg hwT ⊢
  obtain ⟨wb, hwb⟩ : ∃ z, z = (wa.alloc (.cells #[.int .i64 2, .int .i64 0, .int .i64 0, .int .i64 0, .string nX, NLc] 33)).alloc (.cells #[.int .i64 2, .int .i64 0, .int .i64 0, .int .i64 0, .string nX, .slice none 0 0] 33) := ⟨_, rfl⟩
  have hxab : Ext wa wb := by rw [hwb]; exact ((Ext.refl wa).alloc _).alloc _
  have hby : BoxV (X + 1 + 1) [.int .i64 2, .int .i64 0, .int .i64 0, .int .i64 0, .string nX, NLc] wb := by
    rw [hwb]
    refine BoxV.of_row (e := 33) (cs := #[.int .i64 2, .int .i64 0, .int .i64 0, .int .i64 0, .string nX, NLc]) ?_
    exact heap_alloc_at _ _ _ (by simp [hsa])
  rw [← hwb]
  have HE : Hid (Ext w wb) := Lib.hid (hea.trans hxab)
  have hbx := hba.ext hxab
  have hlk := hla.ext hxab
  have htab := hxab.cell hta
  have HW : Hid (∀ k ∈ [X, g + 1, g + 2, g + 6], w.heap.size ≤ k ∧ T ≠ k) := Lib.hid (fun k hk => by
    simp only [List.mem_cons, List.not_mem_nil, or_false] at hk
    rcases hk with rfl | rfl | rfl | rfl <;> omega)
  have HLK := Lib.hid hlk
  have HBX := Lib.hid hbx
  have HBY := Lib.hid hby
  have HT := Lib.hid htab
  have x0 := hbx.cells 0 _ rfl
  have x1 := hbx.cells 1 _ rfl
  have x2 := hbx.cells 2 _ rfl
  have x3 := hbx.cells 3 _ rfl
  have xl := hbx.lt
  have xf := hbx.fz
  have hb : BoxV (g + 6) (smQs g).toList wb := BoxV.of_row hlk.eqs
  have bl := hb.lt
  have bf := hb.fz
  have b0 := hb.cells 0 _ rfl
  have b1 := hb.cells 1 _ rfl
  have b2 := hb.cells 2 _ rfl
  have b3 := hb.cells 3 _ rfl
  have b4 := hb.cells 4 _ rfl
  have b5 := hb.cells 5 _ rfl
  have b6 := hb.cells 6 _ rfl
  have b7 := hb.cells 7 _ rfl
  have b8 := hb.cells 8 _ rfl
  have b9 := hb.cells 9 _ rfl
  have b10 := hb.cells 10 _ rfl
  have b11 := hb.cells 11 _ rfl
  have b12 := hb.cells 12 _ rfl
  clear hb
  have n1 : ¬ (X = g + 6) := by omega
  have n2 : ¬ (g + 6 = X) := by omega
  have n3 : ¬ (X = g + 2) := by omega
  have n4 : ¬ (g + 2 = X) := by omega
  have n5 : ¬ (X = g + 1) := by omega
  have n6 : ¬ (g + 1 = X) := by omega
  clear hwa hea hba hla hsa hta hwb hxab hby hlk hbx htab H1 H2 hwT
  go_upto_region 11 with fail
  refine wp_region_noPanic ?_
  refine hd_begin (S := fun w' => w'.cell? ⟨X, 3, none⟩ = some (.slice (some ⟨g + 6, 0, none⟩) 2 2) ∧ w'.cell? ⟨g + 6, 0, none⟩ = some (.int .i64 1) ∧ w'.cell? ⟨g + 6, 1, none⟩ = some (.string nY) ∧ w'.cell? ⟨g + 6, 2, none⟩ = some (.int .i64 4) ∧ w'.cell? ⟨g + 6, 3, none⟩ = some (.int .i64 3) ∧ w'.cell? ⟨g + 6, 4, none⟩ = some (.int .i64 0) ∧ w'.cell? ⟨g + 6, 5, none⟩ = some (.int .i64 0) ∧ w'.cell? ⟨g + 6, 6, none⟩ = some (.string eB) ∧ w'.cell? ⟨g + 6, 7, none⟩ = some (.slice (some ⟨g + 5, 0, none⟩) 2 2) ∧ w'.cell? ⟨g + 6, 8, none⟩ = some (.int .i64 0) ∧ w'.cell? ⟨g + 6, 9, none⟩ = some (.string eB) ∧ w'.cell? ⟨g + 6, 10, none⟩ = some (.string eB) ∧ w'.cell? ⟨g + 6, 11, none⟩ = some (.int .i64 0) ∧ w'.cell? ⟨g + 6, 12, none⟩ = some (.int .i64 0)) 9 (by kernel_rfl) (by kernel_rfl) ⟨((Ext.refl wb).drew).cell x3, ((Ext.refl wb).drew).cell b0, ((Ext.refl wb).drew).cell b1, ((Ext.refl wb).drew).cell b2, ((Ext.refl wb).drew).cell b3, ((Ext.refl wb).drew).cell b4, ((Ext.refl wb).drew).cell b5, ((Ext.refl wb).drew).cell b6, ((Ext.refl wb).drew).cell b7, ((Ext.refl wb).drew).cell b8, ((Ext.refl wb).drew).cell b9, ((Ext.refl wb).drew).cell b10, ((Ext.refl wb).drew).cell b11, ((Ext.refl wb).drew).cell b12⟩ (fun hHeld => ?_)
  have hxd : Ext wb wb.drew := (Ext.refl wb).drew
  generalize wb.drew = wd at hxd hHeld ⊢
  refine hd_take (i := 0) (v := .pointer (some ⟨X, 3, none⟩)) rfl (by kernel_rfl) (by kernel_rfl) (fun _ _ _ h => h) (Or.inl ⟨by rfl, fun w' hSw => by ((try dsimp only at hSw); go_simp)⟩) hHeld ?_
  try simp only [Act.put, List.setIfInBounds_toArray, List.set_cons_zero, List.set_cons_succ]
  refine hd_take (i := 1) (v := .slice (some ⟨g + 6, 0, none⟩) 2 2) rfl (by kernel_rfl) (by kernel_rfl) (fun _ _ _ h => h) (Or.inl ⟨by rfl, fun w' hSw => by ((try dsimp only at hSw); go_simp)⟩) hHeld ?_
  try simp only [Act.put, List.setIfInBounds_toArray, List.set_cons_zero, List.set_cons_succ]
  refine hd_take (i := 2) (v := .pointer (some ⟨X, 3, none⟩)) rfl (by kernel_rfl) (by kernel_rfl) (fun _ _ _ h => h) (Or.inl ⟨by rfl, fun w' hSw => by ((try dsimp only at hSw); go_simp)⟩) hHeld ?_
  try simp only [Act.put, List.setIfInBounds_toArray, List.set_cons_zero, List.set_cons_succ]
  refine hd_take (i := 3) (v := .slice (some ⟨g + 6, 0, none⟩) 2 2) rfl (by kernel_rfl) (by kernel_rfl) (fun _ _ _ h => h) (Or.inl ⟨by rfl, fun w' hSw => by ((try dsimp only at hSw); go_simp)⟩) hHeld ?_
  try simp only [Act.put, List.setIfInBounds_toArray, List.set_cons_zero, List.set_cons_succ]
  refine hd_take (i := 4) (v := .pointer (some ⟨g + 6, 0, none⟩)) rfl (by kernel_rfl) (by kernel_rfl) (fun _ _ _ h => h) (Or.inl ⟨by rfl, fun w' hSw => by ((try dsimp only at hSw); go_simp)⟩) hHeld ?_
  try simp only [Act.put, List.setIfInBounds_toArray, List.set_cons_zero, List.set_cons_succ]
  refine hd_take (i := 5) (v := .agg #[.int .i64 1, .string nY, .int .i64 4, .int .i64 3, .int .i64 0, .int .i64 0, .string eB, .slice (some ⟨g + 5, 0, none⟩) 2 2, .int .i64 0, .string eB, .string eB, .int .i64 0, .int .i64 0]) rfl (by kernel_rfl) (by kernel_rfl) (fun _ _ _ h => h) (Or.inl ⟨by rfl, fun w' hSw => by ((try dsimp only at hSw); go_simp)⟩) hHeld ?_
  try simp only [Act.put, List.setIfInBounds_toArray, List.set_cons_zero, List.set_cons_succ]
  refine hd_one (i := 6) rfl (by kernel_rfl) (by decide) (fun K hK => ?_)
  go_simp
  have hxn : Ext wb (wd.alloc (.cells #[.int .i64 1, .string nY, .int .i64 4, .int .i64 3, .int .i64 0, .int .i64 0, .string eB, .slice (some ⟨g + 5, 0, none⟩) 2 2, .int .i64 0, .string eB, .string eB, .int .i64 0, .int .i64 0] 35)) := hxd.alloc _
  refine hK.out _ _ (⟨(hxn).cell x3, (hxn).cell b0, (hxn).cell b1, (hxn).cell b2, (hxn).cell b3, (hxn).cell b4, (hxn).cell b5, (hxn).cell b6, (hxn).cell b7, (hxn).cell b8, (hxn).cell b9, (hxn).cell b10, (hxn).cell b11, (hxn).cell b12⟩) (fun hHeld => ?_)
  clear hK K
  try simp only [Act.put, List.setIfInBounds_toArray, List.set_cons_zero, List.set_cons_succ]
  have hhold := hold_blk (HLK.out.ext hxn).eqs
  have hnew := hold_blk (heap_alloc_last wd (.cells #[.int .i64 1, .string nY, .int .i64 4, .int .i64 3, .int .i64 0, .int .i64 0, .string eB, .slice (some ⟨g + 5, 0, none⟩) 2 2, .int .i64 0, .string eB, .string eB, .int .i64 0, .int .i64 0] 35)) _ rfl
  have hone : ∀ u ∈ [Value.int .i64 1, .string nY, .int .i64 4, .int .i64 3, .int .i64 0, .int .i64 0, .string eB, .slice (some ⟨g + 5, 0, none⟩) 2 2, .int .i64 0, .string eB, .string eB, .int .i64 0, .int .i64 0], u.oneCell' = true := by simp [Value.oneCell']
  have hwd := hxd.size
  have hsn : (wd.alloc (.cells #[.int .i64 1, .string nY, .int .i64 4, .int .i64 3, .int .i64 0, .int .i64 0, .string eB, .slice (some ⟨g + 5, 0, none⟩) 2 2, .int .i64 0, .string eB, .string eB, .int .i64 0, .int .i64 0] 35)).heap.size = wd.heap.size + 1 := by simp
  generalize (wd.alloc (.cells #[.int .i64 1, .string nY, .int .i64 4, .int .i64 3, .int .i64 0, .int .i64 0, .string eB, .slice (some ⟨g + 5, 0, none⟩) 2 2, .int .i64 0, .string eB, .string eB, .int .i64 0, .int .i64 0] 35)) = wn at hhold hnew hxn hsn hHeld ⊢
  obtain ⟨i0, h0, hz⟩ := Option.map_eq_some_iff.1 infoEq
  simp only [Prod.mk.injEq] at hz
  obtain ⟨hz0, hz1, hz2⟩ := hz
  refine hd_one (i := 7) rfl (by kernel_rfl) (by decide) (fun K hK => ?_)
  refine step_append_grows rfl (.tmp 37) (.tmp 42) 24 rfl 35 i0 zQc 13 152 Try.underlying24 h0 hz0 hz1 hz2 rfl (by decide) (some ⟨g + 6, 0, none⟩) 2 2 (smQs g).toList rfl (fun h => by cases h) rfl hhold ⟨wd.heap.size, 0, none⟩ 1 1 [.int .i64 1, .string nY, .int .i64 4, .int .i64 3, .int .i64 0, .int .i64 0, .string eB, .slice (some ⟨g + 5, 0, none⟩) 2 2, .int .i64 0, .string eB, .string eB, .int .i64 0, .int .i64 0] rfl rfl hnew hone (by decide) (by decide) (by decide) ?_
  intro v' w6 ho hg
  obtain ⟨x9, y9, z9, rfl⟩ := own_slice3 ho
  obtain rfl : y9 = 3 := by
    obtain ⟨a', c', e, -⟩ := SlC.of_owns ho
    simp at e
    exact e.2.1
  have hx6 := ext_grown hg
  refine hK.out _ _ (⟨(hxn.trans hx6).cell x3, (hxn.trans hx6).cell b0, (hxn.trans hx6).cell b1, (hxn.trans hx6).cell b2, (hxn.trans hx6).cell b3, (hxn.trans hx6).cell b4, (hxn.trans hx6).cell b5, (hxn.trans hx6).cell b6, (hxn.trans hx6).cell b7, (hxn.trans hx6).cell b8, (hxn.trans hx6).cell b9, (hxn.trans hx6).cell b10, (hxn.trans hx6).cell b11, (hxn.trans hx6).cell b12⟩) (fun hHeld => ?_)
  clear hK K hg
  try simp only [Act.put, List.setIfInBounds_toArray, List.set_cons_zero, List.set_cons_succ]
  refine hd_one (i := 8) rfl (by kernel_rfl) (by decide) (fun K hK => ?_)
  go_simp
  refine hK.out _ _ hHeld (fun hHeld => ?_)
  clear hK K
  try simp only [Act.put, List.setIfInBounds_toArray, List.set_cons_zero, List.set_cons_succ]
  refine hd_end (by kernel_rfl) ?_
  simp only [List.drop_succ_cons, List.drop_zero]
  have hx9 : Ext wb w6 := hxn.trans hx6
  have b6 := HBX.out.ext hx9
  have y0 := b6.cells 0 _ rfl
  have y1 := b6.cells 1 _ rfl
  have y2 := b6.cells 2 _ rfl
  have y3 := b6.cells 3 _ rfl
  have yl := b6.lt
  have yf := b6.fz
  have HP := Lib.hid (And.intro ho hx9)
  have hsn2 : X < wn.heap.size := by omega
  clear b6 hHeld
  clear hhold hnew hone
  clear ho hx6 hx9 hxn
  clear x0 x1 x2 x3 xl xf
  clear h0 hz0 hz1 hz2
  clear b0 b1 b2 b3 b4 b5 b6 b7 b8 b9 b10 b11 b12 bl bf
  go_wp2_with fail
  refine NoPanic.normal ?_
  have hks : Kb [X] w6 (w6.setCell ⟨X, 3, none⟩ (.slice x9 3 z9)) := Kb.set _ _ _ (by simp) _
  have hrow := hks.row HP.out.1 (fun q hq e => by
    simp at hq
    subst hq
    have := (HP.out.1.lt q e).1
    omega)
  have hl6 := (HLK.out.ext HP.out.2).kb hks (by simp; omega)
  have HKB : Hid (Kb [X, g + 1, g + 2, g + 6] wb (w6.setCell ⟨X, 3, none⟩ (.slice x9 3 z9))) := Lib.hid ((Kb.of_ext HP.out.2).trans (hks.mono (by simp)))
  have HS6 : Hid (CPIn (w6.setCell ⟨X, 3, none⟩ (.slice x9 3 z9)) (wrongC 2) ⟨.slice (some ⟨g, 0, none⟩) 2 2, .slice (some ⟨g + 1, 0, none⟩) 1 1, .slice (some ⟨g + 2, 0, none⟩) 1 1, .slice x9 3 z9⟩) := Lib.hid ⟨hl6.insv, hl6.outsv, hl6.localsv, three_eqs (q0 := sm0) (q1 := sm1) (q2 := sm0) (hl6.kin 3) (KIn.none _ _ _ _ _ _) (hl6.kin 3) (SlC.of_owns hrow)⟩
  clear hrow hl6 hks
  go_upto_region 53 with (first | (go_at_call 20; refine (HA.out _ ⟨.slice (some ⟨g, 0, none⟩) 2 2, .slice (some ⟨g + 1, 0, none⟩) 1 1, .slice (some ⟨g + 2, 0, none⟩) 1 1, .slice x9 3 z9⟩ (HS6.out)).mono ?_; rintro e3 w3 ⟨rfl, H3⟩) | fail)
  have hfin : Ext w w3 := (HKB.out.ext HE.out (fun k hk => (HW.out k hk).1)).trans H3.out
  have t3 := H3.out.cell (HKB.out.cell (S := [X, g + 1, g + 2, g + 6]) (fun hm => (HW.out T hm).2 rfl) HT.out)
  have tl := World.block_lt_of_cell? _ _ t3
  clear y0 y1 y2 y3 yl yf HKB H3 HA HLK HBX HBY HE HW
  go_wp2_with (first | (refine region_drew (by kernel_rfl) (by kernel_rfl) ?_; (repeat (go_big_quiet_step (exact in_drew (num13_any _ _)))); refine wpQuiet_nil ?_; rintro _ ⟨nq, rfl⟩) | fail)
  rw [HQ.out]
  exact ⟨rfl, Lib.hid (by repeat first | exact Ext.refl _ | assumption | refine Ext.drew ?_ | refine Ext.drewN ?_ _ | refine Ext.extBy ?_ _ | refine Ext.alloc ?_ _ | refine Ext.setCell ?_ (by simp; try omega) _ | (refine Ext.trans ?_ (by assumption)))⟩
end Go.Proofs.Ytmommjagndadjaa
namespace Go.Proofs.Ytmommjagndadjaa
open Go.RowKit Go.Maps
set_option linter.unusedSimpArgs false
set_option linter.unusedVariables false
set_option maxRecDepth 100000

abbrev qsz : Array Value := #[.int .i64 1, .string nY, .int .i64 2, .int .i64 0, .int .i64 0, .int .i64 0, .string nZ, NLc, .int .i64 0, .string eB, .string eB, .int .i64 0, .int .i64 0, .int .i64 2, .string nM, .int .i64 0, .int .i64 0, .int .i64 0, .int .i64 0, .string eB, NLc, .int .i64 0, .string nY, .string nR, .int .i64 0, .int .i64 0]
set_option maxHeartbeats 8000000 in
theorem wrongC_16 (w : World) : Calls Try.prog 6 #[.int .i64 ((16 : Nat) : Int)] w fun e w' => e = .returned (.bool true) ∧ Hid (Ext w w') := by
  obtain ⟨Q, hQ⟩ : ∃ Q, Q = fun e w' => e = Ending.returned (.bool true) ∧ Hid (Ext w w') := ⟨_, rfl⟩
  rw [← hQ]
  have HQ := Lib.hid hQ
  obtain ⟨x, hx⟩ : ∃ x, x = wantC 16 := ⟨_, rfl⟩
  have HA : Hid (AskC 16 x) := Lib.hid (by rw [hx]; exact ask_allC ⟨16, by omega⟩)
  have HX := Lib.hid hx
  clear hQ hx
  go_enter Try.func6, Try.ntmps6
  go_upto_region 7 with (first | (go_at_call 14; refine (alive13_any _).mono ?_; rintro e w1 ⟨rfl, H1⟩) | (go_at_call 18; refine (smallC_any _).mono ?_; rintro e w2 ⟨g, rfl, H2⟩) | (go_at_call 19; refine (var13_any _ _).mono ?_; rintro e w3 ⟨rfl, rfl⟩) | fail)
  obtain ⟨wa, hwa⟩ : ∃ z, z = w2.alloc (.cells (smCA g) 26) := ⟨_, rfl⟩
  have hea : Ext w wa := by rw [hwa]; exact ((H1.out.alloc _).trans H2.out.1).alloc _
  have hba : BoxV w2.heap.size (smCA g).toList wa := by rw [hwa]; exact BoxV.of_row (heap_alloc_last w2 _)
  have hla : LikeD g smOs smLs (smQs g) wa := by rw [hwa]; exact (H2.out.2.2.ext ((Ext.refl w2).alloc _)).d
  have hsa : wa.heap.size = w2.heap.size + 1 := by rw [hwa]; simp
  have hta : wa.cell? ⟨w1.heap.size, 16, none⟩ = some (.int .i64 x) := by
    rw [HX.out, hwa]
    exact (H2.out.1.alloc _).cell (want_at _ _ _ (heap_alloc_last w1 _) ⟨16, by omega⟩)
  rw [← hwa]
  have hgX : g + 6 < w2.heap.size := (Array.getElem?_eq_some_iff.1 H2.out.2.2.eqs).1
  have hTg : w1.heap.size < g := by
    have := H2.out.2.1
    simp at this
    omega
  have hwT := H1.out.size
  generalize w2.heap.size = X at hba hsa hgX ⊢
  generalize w1.heap.size = T at hta hTg hwT ⊢
  obtain ⟨wb, hwb⟩ : ∃ z, z = (wa.alloc (.cells #[.int .i64 2, .int .i64 0, .int .i64 0, .int .i64 0, .string nX, NLc] 33)).alloc (.cells #[.int .i64 2, .int .i64 0, .int .i64 0, .int .i64 0, .string nX, .slice none 0 0] 33) := ⟨_, rfl⟩
  have hxab : Ext wa wb := by rw [hwb]; exact ((Ext.refl wa).alloc _).alloc _
  have hby : BoxV (X + 1 + 1) [.int .i64 2, .int .i64 0, .int .i64 0, .int .i64 0, .string nX, NLc] wb := by
    rw [hwb]
    refine BoxV.of_row (e := 33) (cs := #[.int .i64 2, .int .i64 0, .int .i64 0, .int .i64 0, .string nX, NLc]) ?_
    exact heap_alloc_at _ _ _ (by simp [hsa])
  rw [← hwb]
  have HE : Hid (Ext w wb) := Lib.hid (hea.trans hxab)
  have hbx := hba.ext hxab
  have hlk := hla.ext hxab
  have htab := hxab.cell hta
  have HW : Hid (∀ k ∈ [X, g + 1, g + 2, g + 6], w.heap.size ≤ k ∧ T ≠ k) := Lib.hid (fun k hk => by
    simp only [List.mem_cons, List.not_mem_nil, or_false] at hk
    rcases hk with rfl | rfl | rfl | rfl <;> omega)
  have HLK := Lib.hid hlk
  have HBX := Lib.hid hbx
  have HBY := Lib.hid hby
  have HT := Lib.hid htab
  have x0 := hbx.cells 0 _ rfl
  have x1 := hbx.cells 1 _ rfl
  have x2 := hbx.cells 2 _ rfl
  have x3 := hbx.cells 3 _ rfl
  have xl := hbx.lt
  have xf := hbx.fz

  have n1 : ¬ (X = g + 6) := by omega
  have n2 : ¬ (g + 6 = X) := by omega
  have n3 : ¬ (X = g + 2) := by omega
  have n4 : ¬ (g + 2 = X) := by omega
  have n5 : ¬ (X = g + 1) := by omega
  have n6 : ¬ (g + 1 = X) := by omega
  clear hwa hea hba hla hsa hta hwb hxab hby hlk hbx htab H1 H2 hwT
  obtain ⟨i0, h0, hz⟩ := Option.map_eq_some_iff.1 infoVar
  simp only [Prod.mk.injEq] at hz
  obtain ⟨hz0, hz1, hz2⟩ := hz
  have hnew := hold_blk (heap_alloc_last wb (.cells #[.string nZ, .int .i64 2, NLc] 30)) _ rfl
  have hhold := hold_blk (ext_block ((Ext.refl wb).alloc (.cells #[.string nZ, .int .i64 2, NLc] 30)) HLK.out.locals)
  have hone : ∀ u ∈ [Value.string nZ, .int .i64 2, NLc], u.oneCell' = true := by simp [Value.oneCell']
  have H00 := Lib.hid (And.intro h0 (And.intro hz0 (And.intro hz1 hz2)))
  have HNW := Lib.hid (And.intro hnew (And.intro hhold hone))
  clear h0 hz0 hz1 hz2 hnew hhold hone
  go_upto_region 40 with (first | (at_builtin; (refine wpList_append_grows _ rfl (.tmp 143) (.tmp 145) 23 rfl 30 i0 zV 3 48 Try.underlying23 H00.out.1 H00.out.2.1 H00.out.2.2.1 H00.out.2.2.2 rfl (by decide) (some ⟨g + 2, 0, none⟩) 1 1 smLs.toList rfl (fun h => by cases h) rfl HNW.out.2.1 ⟨wb.heap.size, 0, none⟩ 1 1 [.string nZ, .int .i64 2, NLc] rfl rfl HNW.out.1 HNW.out.2.2 (by decide) (by decide) (by decide) ?_; intro v' w6 ho hg; obtain ⟨x9, y9, z9, rfl⟩ := own_slice3 ho; obtain rfl : y9 = 2 := (by obtain ⟨a', c', e, -⟩ := SlC.of_owns ho; simp at e; exact e.2.1); have HP := Lib.hid (And.intro ho (((Ext.refl wb).alloc _).trans (ext_grown hg))); have b6 := HBX.out.ext HP.out.2; have y0 := b6.cells 0 _ rfl; have y1 := b6.cells 1 _ rfl; have y2 := b6.cells 2 _ rfl; have y3 := b6.cells 3 _ rfl; have yl := b6.lt; have yf := b6.fz; clear ho hg b6)) | fail)
  have hks : Kb [X] w6 (w6.setCell ⟨X, 2, none⟩ (.slice x9 2 z9)) := Kb.set _ _ _ (by simp) _
  have hrow := hks.row HP.out.1 (fun q hq e => by
    simp at hq
    subst hq
    have := (HP.out.1.lt q e).1
    simp at this
    omega)
  have hl6 := (HLK.out.ext HP.out.2).kb hks (by simp; omega)
  have hkb : Kb [X, g + 1, g + 2, g + 6] wb (w6.setCell ⟨X, 2, none⟩ (.slice x9 2 z9)) := (Kb.of_ext HP.out.2).trans (hks.mono (by simp))
  have hrb : ∀ q, (Value.slice x9 2 z9).ownBlock = some q → X < q := fun q e => by
    have := (HP.out.1.lt q e).1
    simp at this
    omega
  have hbc : BoxV X [.slice (some ⟨g, 0, none⟩) 2 2, .slice (some ⟨g + 1, 0, none⟩) 1 1, .slice x9 2 z9, .slice (some ⟨g + 6, 0, none⟩) 2 2] (w6.setCell ⟨X, 2, none⟩ (.slice x9 2 z9)) := ((HBX.out.ext HP.out.2).put 2 (.slice x9 2 z9)).cast rfl
  have hsc : wb.heap.size ≤ (w6.setCell ⟨X, 2, none⟩ (.slice x9 2 z9)).heap.size := by
    have := HP.out.2.size
    simp
    exact this
  clear hks
  generalize w6.setCell ⟨X, 2, none⟩ (.slice x9 2 z9) = wc at hrow hl6 hkb hbc hsc ⊢
  have HC1 := Lib.hid (And.intro hrow (And.intro hl6 (And.intro hkb (And.intro hbc (And.intro hrb hsc)))))
  have z3 := hbc.cells 3 _ rfl
  have zl := hbc.lt
  clear hrow hl6 hkb hbc hrb hsc
  clear x0 x1 x2 x3 xl xf y0 y1 y2 y3 yl yf
  go_upto_region 40 with fail
  refine wp_region_noPanic ?_
  refine hd_begin (S := fun w' => w'.cell? ⟨X, 3, none⟩ = some (.slice (some ⟨g + 6, 0, none⟩) 2 2)) 5 (by kernel_rfl) (by kernel_rfl) z3 (fun hHeld => ?_)
  have hxd : Ext wc wc.drew := (Ext.refl wc).drew
  generalize wc.drew = wd at hxd hHeld ⊢
  refine hd_take (i := 0) (v := .pointer (some ⟨X, 3, none⟩)) rfl (by kernel_rfl) (by kernel_rfl) (fun _ _ _ h => h) (Or.inl ⟨by rfl, fun w' hSw => by ((try dsimp only at hSw); go_simp)⟩) hHeld ?_
  try simp only [Act.put, List.setIfInBounds_toArray, List.set_cons_zero, List.set_cons_succ]
  refine hd_take (i := 1) (v := .slice (some ⟨g + 6, 0, none⟩) 2 2) rfl (by kernel_rfl) (by kernel_rfl) (fun _ _ _ h => h) (Or.inl ⟨by rfl, fun w' hSw => by ((try dsimp only at hSw); go_simp)⟩) hHeld ?_
  try simp only [Act.put, List.setIfInBounds_toArray, List.set_cons_zero, List.set_cons_succ]
  refine hd_one (i := 2) rfl (by kernel_rfl) (by decide) (fun K hK => ?_)
  go_simp
  go_at_call 19
  refine (var13_any nZ _).mono ?_
  rintro e wk ⟨rfl, hwk⟩
  have hxk : Ext wc wk := by rw [hwk]; exact hxd.alloc _
  clear hwk
  refine hK.out _ _ (hxk.cell z3) (fun hHeld => ?_)
  clear hK K
  try simp only [Act.put, List.setIfInBounds_toArray, List.set_cons_zero, List.set_cons_succ]
  refine hd_one (i := 3) rfl (by kernel_rfl) (by decide) (fun K hK => ?_)
  go_simp
  refine hK.out _ _ hHeld (fun hHeld => ?_)
  clear hK K
  try simp only [Act.put, List.setIfInBounds_toArray, List.set_cons_zero, List.set_cons_succ]
  refine hd_one (i := 4) rfl (by kernel_rfl) (by decide) (fun K hK => ?_)
  go_simp
  refine hK.out _ _ hHeld (fun hHeld => ?_)
  clear hK K
  try simp only [Act.put, List.setIfInBounds_toArray, List.set_cons_zero, List.set_cons_succ]
  refine hd_end (by kernel_rfl) ?_
  simp only [List.drop_succ_cons, List.drop_zero]
  have hbk : BoxV (g + 6) (smQs g).toList wk := BoxV.of_row (HC1.out.2.1.ext hxk).eqs
  have kl := hbk.lt
  have kf := hbk.fz
  have d2 := hbk.cells 2 _ rfl
  have d3 := hbk.cells 3 _ rfl
  have d4 := hbk.cells 4 _ rfl
  have d5 := hbk.cells 5 _ rfl
  have d6 := hbk.cells 6 _ rfl
  have d7 := hbk.cells 7 _ rfl
  have HXK := Lib.hid hxk
  clear hbk hHeld z3 zl hxd hxk
  go_wp2_with fail
  refine NoPanic.normal ?_
  have hkz : Kb [g + 6] wk (((((((wk.setCell ⟨g + 6, 2, none⟩ (.int .i64 2)).setCell ⟨g + 6, 3, none⟩ (.int .i64 0)).setCell ⟨g + 6, 4, none⟩ (.int .i64 0)).setCell ⟨g + 6, 5, none⟩ (.int .i64 0)).setCell ⟨g + 6, 6, none⟩ (.string nZ)).setCell ⟨g + 6, 7, none⟩ (.slice none 0 0))) := (((((Kb.set _ _ _ (by simp) _).trans (Kb.set _ _ _ (by simp) _)).trans (Kb.set _ _ _ (by simp) _)).trans (Kb.set _ _ _ (by simp) _)).trans (Kb.set _ _ _ (by simp) _)).trans (Kb.set _ _ _ (by simp) _)
  have hl7 : LikeD g smOs smLs qsz (((((((wk.setCell ⟨g + 6, 2, none⟩ (.int .i64 2)).setCell ⟨g + 6, 3, none⟩ (.int .i64 0)).setCell ⟨g + 6, 4, none⟩ (.int .i64 0)).setCell ⟨g + 6, 5, none⟩ (.int .i64 0)).setCell ⟨g + 6, 6, none⟩ (.string nZ)).setCell ⟨g + 6, 7, none⟩ (.slice none 0 0))) := LikeD.cast (((((((HC1.out.2.1.ext HXK.out).qset 2 (.int .i64 2)).qset 3 (.int .i64 0)).qset 4 (.int .i64 0)).qset 5 (.int .i64 0)).qset 6 (.string nZ)).qset 7 (.slice none 0 0)) rfl rfl (by kernel_rfl)
  have hr7 := hkz.row (ownsRow_ext HC1.out.1 HXK.out) (fun q hq e => by
    simp at hq
    subst hq
    have := HC1.out.2.2.2.2.1 _ e
    omega)
  have hb7 : BoxV X [.slice (some ⟨g, 0, none⟩) 2 2, .slice (some ⟨g + 1, 0, none⟩) 1 1, .slice x9 2 z9, .slice (some ⟨g + 6, 0, none⟩) 2 2] (((((((wk.setCell ⟨g + 6, 2, none⟩ (.int .i64 2)).setCell ⟨g + 6, 3, none⟩ (.int .i64 0)).setCell ⟨g + 6, 4, none⟩ (.int .i64 0)).setCell ⟨g + 6, 5, none⟩ (.int .i64 0)).setCell ⟨g + 6, 6, none⟩ (.string nZ)).setCell ⟨g + 6, 7, none⟩ (.slice none 0 0))) := (HC1.out.2.2.2.1.ext HXK.out).kb hkz (by simp; omega)
  have hk7 : Kb [X, g + 1, g + 2, g + 6] wb (((((((wk.setCell ⟨g + 6, 2, none⟩ (.int .i64 2)).setCell ⟨g + 6, 3, none⟩ (.int .i64 0)).setCell ⟨g + 6, 4, none⟩ (.int .i64 0)).setCell ⟨g + 6, 5, none⟩ (.int .i64 0)).setCell ⟨g + 6, 6, none⟩ (.string nZ)).setCell ⟨g + 6, 7, none⟩ (.slice none 0 0))) := (HC1.out.2.2.1.trans (Kb.of_ext HXK.out)).trans (hkz.mono (by simp))
  have hs7 : wb.heap.size ≤ (((((((wk.setCell ⟨g + 6, 2, none⟩ (.int .i64 2)).setCell ⟨g + 6, 3, none⟩ (.int .i64 0)).setCell ⟨g + 6, 4, none⟩ (.int .i64 0)).setCell ⟨g + 6, 5, none⟩ (.int .i64 0)).setCell ⟨g + 6, 6, none⟩ (.string nZ)).setCell ⟨g + 6, 7, none⟩ (.slice none 0 0))).heap.size := Nat.le_trans HC1.out.2.2.2.2.2 (Nat.le_trans HXK.out.size hkz.size)
  clear hkz d2 d3 d4 d5 d6 d7 kl kf
  generalize ((((((wk.setCell ⟨g + 6, 2, none⟩ (.int .i64 2)).setCell ⟨g + 6, 3, none⟩ (.int .i64 0)).setCell ⟨g + 6, 4, none⟩ (.int .i64 0)).setCell ⟨g + 6, 5, none⟩ (.int .i64 0)).setCell ⟨g + 6, 6, none⟩ (.string nZ)).setCell ⟨g + 6, 7, none⟩ (.slice none 0 0)) = we at hl7 hr7 hb7 hk7 hs7 ⊢
  have HC2 := Lib.hid (And.intro hr7 (And.intro hl7 (And.intro hk7 (And.intro hb7 (And.intro HC1.out.2.2.2.2.1 hs7)))))
  have z3 := hb7.cells 3 _ rfl
  have zl := hb7.lt
  clear hr7 hl7 hb7 hk7 hs7 HC1 HXK HP
  go_upto_region 41 with fail
  refine wp_region_noPanic ?_
  refine hd_begin (S := fun w' => w'.cell? ⟨X, 3, none⟩ = some (.slice (some ⟨g + 6, 0, none⟩) 2 2)) 7 (by kernel_rfl) (by kernel_rfl) z3 (fun hHeld => ?_)
  have hxd : Ext we we.drew := (Ext.refl we).drew
  generalize we.drew = wd at hxd hHeld ⊢
  refine hd_take (i := 0) (v := .pointer (some ⟨X, 3, none⟩)) rfl (by kernel_rfl) (by kernel_rfl) (fun _ _ _ h => h) (Or.inl ⟨by rfl, fun w' hSw => by ((try dsimp only at hSw); go_simp)⟩) hHeld ?_
  try simp only [Act.put, List.setIfInBounds_toArray, List.set_cons_zero, List.set_cons_succ]
  refine hd_take (i := 1) (v := .slice (some ⟨g + 6, 0, none⟩) 2 2) rfl (by kernel_rfl) (by kernel_rfl) (fun _ _ _ h => h) (Or.inl ⟨by rfl, fun w' hSw => by ((try dsimp only at hSw); go_simp)⟩) hHeld ?_
  try simp only [Act.put, List.setIfInBounds_toArray, List.set_cons_zero, List.set_cons_succ]
  refine hd_one (i := 2) rfl (by kernel_rfl) (by decide) (fun K hK => ?_)
  go_simp
  go_at_call 19
  refine (var13_any nY _).mono ?_
  rintro e wk ⟨rfl, hwk⟩
  have hxk : Ext we wk := by rw [hwk]; exact hxd.alloc _
  clear hwk
  refine hK.out _ _ (hxk.cell z3) (fun hHeld => ?_)
  clear hK K
  try simp only [Act.put, List.setIfInBounds_toArray, List.set_cons_zero, List.set_cons_succ]
  refine hd_one (i := 3) rfl (by kernel_rfl) (by decide) (fun K hK => ?_)
  go_simp
  refine hK.out _ _ hHeld (fun hHeld => ?_)
  clear hK K
  try simp only [Act.put, List.setIfInBounds_toArray, List.set_cons_zero, List.set_cons_succ]
  refine hd_one (i := 4) rfl (by kernel_rfl) (by decide) (fun K hK => ?_)
  go_simp
  have hxn : Ext we (wk.alloc (.cells #[.int .i64 1, .string nZ, .int .i64 2, .int .i64 0, .int .i64 0, .int .i64 0, .string nY, NLc, .int .i64 0, .string eB, .string eB, .int .i64 0, .int .i64 0] 35)) := hxk.alloc _
  refine hK.out _ _ (hxn.cell z3) (fun hHeld => ?_)
  clear hK K
  try simp only [Act.put, List.setIfInBounds_toArray, List.set_cons_zero, List.set_cons_succ]
  have hhold := hold_blk (HC2.out.2.1.ext hxn).eqs
  have hnew := hold_blk (heap_alloc_last wk (.cells #[.int .i64 1, .string nZ, .int .i64 2, .int .i64 0, .int .i64 0, .int .i64 0, .string nY, NLc, .int .i64 0, .string eB, .string eB, .int .i64 0, .int .i64 0] 35)) _ rfl
  have hone : ∀ u ∈ [Value.int .i64 1, .string nZ, .int .i64 2, .int .i64 0, .int .i64 0, .int .i64 0, .string nY, NLc, .int .i64 0, .string eB, .string eB, .int .i64 0, .int .i64 0], u.oneCell' = true := by simp [Value.oneCell']
  have hwd := hxk.size
  have hsn : (wk.alloc (.cells #[.int .i64 1, .string nZ, .int .i64 2, .int .i64 0, .int .i64 0, .int .i64 0, .string nY, NLc, .int .i64 0, .string eB, .string eB, .int .i64 0, .int .i64 0] 35)).heap.size = wk.heap.size + 1 := by simp
  generalize (wk.alloc (.cells #[.int .i64 1, .string nZ, .int .i64 2, .int .i64 0, .int .i64 0, .int .i64 0, .string nY, NLc, .int .i64 0, .string eB, .string eB, .int .i64 0, .int .i64 0] 35)) = wn at hhold hnew hxn hsn hHeld ⊢
  obtain ⟨i1, h0, hz⟩ := Option.map_eq_some_iff.1 infoEq
  simp only [Prod.mk.injEq] at hz
  obtain ⟨hz0, hz1, hz2⟩ := hz
  refine hd_one (i := 5) rfl (by kernel_rfl) (by decide) (fun K hK => ?_)
  refine step_append_grows rfl (.tmp 154) (.tmp 157) 24 rfl 35 i1 zQc 13 152 Try.underlying24 h0 hz0 hz1 hz2 rfl (by decide) (some ⟨g + 6, 0, none⟩) 2 2 (qsz).toList rfl (fun h => by cases h) rfl hhold ⟨wk.heap.size, 0, none⟩ 1 1 [.int .i64 1, .string nZ, .int .i64 2, .int .i64 0, .int .i64 0, .int .i64 0, .string nY, NLc, .int .i64 0, .string eB, .string eB, .int .i64 0, .int .i64 0] rfl rfl hnew hone (by decide) (by decide) (by decide) ?_
  intro v' w8 ho hg
  obtain ⟨u9, t9, v9, rfl⟩ := own_slice3 ho
  obtain rfl : t9 = 3 := by
    obtain ⟨a', c', e, -⟩ := SlC.of_owns ho
    simp at e
    exact e.2.1
  have hx6 := ext_grown hg
  refine hK.out _ _ ((hxn.trans hx6).cell z3) (fun hHeld => ?_)
  clear hK K hg
  try simp only [Act.put, List.setIfInBounds_toArray, List.set_cons_zero, List.set_cons_succ]
  refine hd_one (i := 6) rfl (by kernel_rfl) (by decide) (fun K hK => ?_)
  go_simp
  refine hK.out _ _ hHeld (fun hHeld => ?_)
  clear hK K
  try simp only [Act.put, List.setIfInBounds_toArray, List.set_cons_zero, List.set_cons_succ]
  refine hd_end (by kernel_rfl) ?_
  simp only [List.drop_succ_cons, List.drop_zero]
  have hx9 : Ext we w8 := hxn.trans hx6
  have be6 := HC2.out.2.2.2.1.ext hx9
  have y0 := be6.cells 0 _ rfl
  have y1 := be6.cells 1 _ rfl
  have y2 := be6.cells 2 _ rfl
  have y3 := be6.cells 3 _ rfl
  have yl := be6.lt
  have yf := be6.fz
  have HP := Lib.hid (And.intro ho hx9)
  have hsn2 : X < wn.heap.size := by omega
  clear be6 hHeld
  clear hhold hnew hone
  clear ho hx6 hx9 hxn hxk hxd
  clear h0 hz0 hz1 hz2 z3 zl
  go_wp2_with fail
  refine NoPanic.normal ?_
  have hks : Kb [X] w8 (w8.setCell ⟨X, 3, none⟩ (.slice u9 3 v9)) := Kb.set _ _ _ (by simp) _
  have hrow := hks.row HP.out.1 (fun q hq e => by
    simp at hq
    subst hq
    have := (HP.out.1.lt q e).1
    omega)
  have hrl := hks.row (ownsRow_ext HC2.out.1 HP.out.2) (fun q hq e => by
    simp at hq
    subst hq
    have := HC2.out.2.2.2.2.1 _ e
    omega)
  have hl6 := (HC2.out.2.1.ext HP.out.2).kb hks (by simp; omega)
  have HKB : Hid (Kb [X, g + 1, g + 2, g + 6] wb (w8.setCell ⟨X, 3, none⟩ (.slice u9 3 v9))) := Lib.hid ((HC2.out.2.2.1.trans (Kb.of_ext HP.out.2)).trans (hks.mono (by simp)))
  have HS6 : Hid (CPIn (w8.setCell ⟨X, 3, none⟩ (.slice u9 3 v9)) (wrongC 16) ⟨.slice (some ⟨g, 0, none⟩) 2 2, .slice (some ⟨g + 1, 0, none⟩) 1 1, .slice x9 2 z9, .slice u9 3 v9⟩) := Lib.hid ⟨hl6.insv, hl6.outsv, two_vars (SlC.of_owns hrl), three_eqs (q0 := defE nY (exV nZ)) (q1 := sm1) (q2 := defE nZ (exV nY)) (KIn.none _ _ _ _ _ _) (KIn.none _ _ _ _ _ _) (KIn.none _ _ _ _ _ _) (SlC.of_owns hrow)⟩
  clear hrow hl6 hks hrl
  go_upto_region 53 with (first | (go_at_call 20; refine (HA.out _ ⟨.slice (some ⟨g, 0, none⟩) 2 2, .slice (some ⟨g + 1, 0, none⟩) 1 1, .slice x9 2 z9, .slice u9 3 v9⟩ (HS6.out)).mono ?_; rintro e3 w3 ⟨rfl, H3⟩) | fail)
  have hfin : Ext w w3 := (HKB.out.ext HE.out (fun k hk => (HW.out k hk).1)).trans H3.out
  have t3 := H3.out.cell (HKB.out.cell (S := [X, g + 1, g + 2, g + 6]) (fun hm => (HW.out T hm).2 rfl) HT.out)
  have tl := World.block_lt_of_cell? _ _ t3
  clear y0 y1 y2 y3 yl yf HKB H3 HA HLK HBX HBY HE HW
  go_wp2_with (first | (refine region_drew (by kernel_rfl) (by kernel_rfl) ?_; (repeat (go_big_quiet_step (exact in_drew (num13_any _ _)))); refine wpQuiet_nil ?_; rintro _ ⟨nq, rfl⟩) | fail)
  rw [HQ.out]
  exact ⟨rfl, Lib.hid (by repeat first | exact Ext.refl _ | assumption | refine Ext.drew ?_ | refine Ext.drewN ?_ _ | refine Ext.extBy ?_ _ | refine Ext.alloc ?_ _ | refine Ext.setCell ?_ (by simp; try omega) _ | (refine Ext.trans ?_ (by assumption)))⟩
end Go.Proofs.Ytmommjagndadjaa
namespace Go.Proofs.Ytmommjagndadjaa
open Go.RowKit Go.Maps
set_option linter.unusedSimpArgs false
set_option linter.unusedVariables false
set_option maxRecDepth 100000

theorem coreWrong_law (k : Int) (hk : I64 k) (w : World) : Calls Try.prog 6 #[.int .i64 k] w fun e w' => e = .returned (.bool true) ∧ Ext w w' := by
  have main : Calls Try.prog 6 #[.int .i64 k] w fun e w' => e = .returned (.bool true) ∧ Hid (Ext w w') := by
    by_cases hb : k < 0 ∨ 22 ≤ k
    · exact wrongC_out k hk hb w
    · obtain ⟨n, rfl⟩ : ∃ n : Nat, k = (n : Int) := ⟨k.toNat, by omega⟩
      have hn : n < 22 := by omega
      clear hb hk
      match n, hn with
      | 0, _ => exact wrongC_0 w
      | 1, _ => exact wrongC_1 w
      | 2, _ => exact wrongC_2 w
      | 3, _ => exact wrongC_3 w
      | 4, _ => exact wrongC_4 w
      | 5, _ => exact wrongC_5 w
      | 6, _ => exact wrongC_6 w
      | 7, _ => exact wrongC_7 w
      | 8, _ => exact wrongC_8 w
      | 9, _ => exact wrongC_9 w
      | 10, _ => exact wrongC_10 w
      | 11, _ => exact wrongC_11 w
      | 12, _ => exact wrongC_12 w
      | 13, _ => exact wrongC_13 w
      | 14, _ => exact wrongC_14 w
      | 15, _ => exact wrongC_15 w
      | 16, _ => exact wrongC_16 w
      | 17, _ => exact wrongC_17 w
      | 18, _ => exact wrongC_18 w
      | 19, _ => exact wrongC_19 w
      | 20, _ => exact wrongC_20 w
      | 21, _ => exact wrongC_21 w
      | n + 22, h => exact absurd h (by omega)
  exact main.mono fun _ _ h => ⟨h.1, h.2.out⟩
end Go.Proofs.Ytmommjagndadjaa
