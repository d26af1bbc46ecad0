/-
  The law on two machines: its walk, where both are made.
  No condition.
-/
import Derived.Test.YtipfcfaigbeakaaTwoLive
import Derived.Test.YtipfcfaigbeakaaExecY
namespace Go.Proofs.Ytipfcfaigbeakaa
open Go.RowKit
set_option linter.unusedSimpArgs false
set_option linter.unusedVariables false
set_option maxRecDepth 100000

theorem own_room1 {w : World} {base g n cap : Nat} {e : TypeId} {xs : List Value} (h : w.ownsRow base e 1 (.slice (some ⟨g, 0, none⟩) n cap) n xs) (j : Nat) (hj : j < n) : ∃ y, w.cell? ⟨g, j, none⟩ = some y ∧ w.frozen? ⟨g, j, none⟩ = false := by
  obtain ⟨h1, h2⟩ := h
  rcases h2 with ⟨h2, _⟩ | ⟨g', cap', cur, hv, hg, hh, hn, hc, hs, ht⟩
  · cases h2
  · simp only [Value.slice.injEq, Option.some.injEq, Addr.mk.injEq] at hv
    obtain ⟨⟨rfl, -, -⟩, -, rfl⟩ := hv
    refine ⟨cur[j]'(by omega), ?_, frozen_of_row _ _ _ _ _ hh⟩
    rw [cell_of_row w g _ cur e (0, 0) hh, Array.getElem?_eq_getElem]
set_option maxHeartbeats 8000000 in
theorem two_good (c : CodeV) (kv iv bv v v2 : Value) (vs vs2 : List Value) (rs rs2 : List (List Int)) (w : World) (h : CodeIn w kv iv bv c) (wf : CodeWf c) (hr : RowsIn w v vs rs) (hr2 : RowsIn w v2 vs2 rs2) (hI : ∀ r ∈ rs, ∀ n ∈ r, I64 n) (hI2 : ∀ r ∈ rs2, ∀ n ∈ r, I64 n) (hb1 : bigV c = false) (hb2 : bigR 0 rs = false) (hb3 : bigR 0 rs2 = false) (h20 : rs.length ≤ 20) (h22 : rs2.length ≤ 20) (hc : chk c = 0) :
    Calls Try.prog 10 #[codeA c kv iv bv, v, v2] w fun e w' => e = .returned (.bool true) ∧ Ext w w' := by
  have hg : GoodC c := ⟨hc, wf.body⟩
  obtain ⟨s1, s2, s3⟩ := chk_sizes hc
  obtain ⟨G, -⟩ := chk_fin hc
  have hcok := init_ok G wf.init
  have HL := LawC.of h
  have HB := Lib.hid HL.big
  have HC := Lib.hid HL.chk
  have HG : Hid (∀ w', Ext w w' → Calls Try.prog 27 #[v] w' fun e w1 => e = .returned (.bool (bigR 0 rs)) ∧ Ext w' w1) := Lib.hid fun w' hx => big11_any (hr.ext hx)
  have HG2 : Hid (∀ w', Ext w w' → Calls Try.prog 27 #[v2] w' fun e w1 => e = .returned (.bool (bigR 0 rs2)) ∧ Ext w' w1) := Lib.hid fun w' hx => big11_any (hr2.ext hx)
  have HNW : Hid (∀ (w' : World) (kv' iv' bv' : Value), CodeIn w' kv' iv' bv' c → Calls Try.prog 28 #[codeA c kv' iv' bv'] w' fun e w2 => ∃ g S, e = .returned (.tuple #[.pointer (some ⟨g, 0, none⟩), .int .i64 0]) ∧ MI g w'.heap.size c c.init S w2 ∧ Ext w' w2) := Lib.hid fun w' _ _ _ hx => new_mi hg wf hx
  have HRN : Hid (∀ w', Ext w w' → Calls Try.prog 29 #[codeA c kv iv bv] w' fun e w2 => ∃ g S, e = .returned (.pointer (some ⟨g, 0, none⟩)) ∧ RI g c kv iv bv c.init S w2 ∧ (∀ k ∈ S, w'.heap.size ≤ k) ∧ Ext w' w2) := Lib.hid fun w' hx => (refNew_any c kv iv bv w' (h.ext hx) (by omega)).mono fun e w2 hm => hm.ri (h.ext hx) hcok
  obtain ⟨n, hn⟩ : ∃ n, n = rs.length := ⟨_, rfl⟩
  obtain ⟨n2, hn2⟩ : ∃ n, n = rs2.length := ⟨_, rfl⟩
  have HR := Lib.hid hr
  have HR2 := Lib.hid hr2
  have HI := Lib.hid h
  obtain ⟨a, cap, rfl, h1, h2, htc⟩ := id hr.top
  obtain ⟨a2, cap2, rfl, h3, h4, htc2⟩ := id hr2.top
  have HT := Lib.hid htc
  have HT2 := Lib.hid htc2
  have hw := nat64 h1 h2
  have hw2 := nat64 h3 h4
  obtain ⟨⟨ka, kcap, rfl, -⟩, ⟨ia, icap, rfl, -⟩, ⟨ba, bcap, rfl, -⟩⟩ := id h
  rw [hc] at HC
  rw [hb1] at HB
  rw [hb2] at HG
  rw [hb3] at HG2
  rw [← hn] at hw h1 h20 HG ⊢
  rw [← hn2] at hw2 h3 h22 HG2 ⊢
  have HY := Lib.hid (And.intro hg (And.intro hI (And.intro hI2 (And.intro hn hn2))))
  clear hb1 hb2 hb3 HL h hr hr2 hn hn2 hc hI hI2 hg htc htc2 wf G hcok h1 h2 h3 h4 hw hw2
  simp only [codeA] at HC HB HNW HRN ⊢
  go_enter Try.func10, Try.ntmps10
  go_upto_region 1 with fail
  have hbX : BoxV w.heap.size [.slice ka c.kinds.length kcap, .int .i64 c.ins, .int .i64 c.outs, .int .i64 c.cells, .int .i64 c.stack, .slice ia c.init.length icap, .slice ba c.body.length bcap] (w.alloc (.cells #[.slice ka c.kinds.length kcap, .int .i64 c.ins, .int .i64 c.outs, .int .i64 c.cells, .int .i64 c.stack, .slice ia c.init.length icap, .slice ba c.body.length bcap] 25)) := BoxV.of_row (heap_alloc_last w _)
  have hE : Ext w (w.alloc (.cells #[.slice ka c.kinds.length kcap, .int .i64 c.ins, .int .i64 c.outs, .int .i64 c.cells, .int .i64 c.stack, .slice ia c.init.length icap, .slice ba c.body.length bcap] 25)) := (Ext.refl w).alloc _
  generalize w.alloc (.cells #[.slice ka c.kinds.length kcap, .int .i64 c.ins, .int .i64 c.outs, .int .i64 c.cells, .int .i64 c.stack, .slice ia c.init.length icap, .slice ba c.body.length bcap] 25) = w1 at hbX hE ⊢
  obtain ⟨X, hX⟩ : ∃ X, X = w.heap.size := ⟨_, rfl⟩
  rw [← hX] at hbX ⊢
  have HXX := Lib.hid hX
  have p0 := hbX.cells 0 _ rfl
  have p1 := hbX.cells 1 _ rfl
  have p2 := hbX.cells 2 _ rfl
  have p3 := hbX.cells 3 _ rfl
  have p4 := hbX.cells 4 _ rfl
  have p5 := hbX.cells 5 _ rfl
  have p6 := hbX.cells 6 _ rfl
  have hXl := hbX.lt
  clear hX
  go_upto_region 5 with (first | (go_at_call 26; refine (live21 _).mono ?_; rintro e w2 ⟨rfl, hx1⟩; (first | (with_reducible obtain ⟨t1, rfl⟩ := Ext.tok2 hx1) | (obtain ⟨t1, rfl⟩ := Ext.tok hx1))) | (go_at_call 16; refine (HB.out _ (by repeat first | exact Ext.refl _ | assumption | refine Ext.drew ?_ | refine Ext.drewN ?_ _ | refine Ext.extBy ?_ _ | refine Ext.alloc ?_ _ | refine Ext.setCell ?_ (by simp; try omega) _ | (refine Ext.trans ?_ (by assumption)))).mono ?_; rintro e w2 ⟨rfl, hx2⟩; (first | (with_reducible obtain ⟨t2, rfl⟩ := Ext.tok2 hx2) | (obtain ⟨t2, rfl⟩ := Ext.tok hx2))) | (go_at_call 27; (first | (with_reducible refine (HG.out _ (by repeat first | exact Ext.refl _ | assumption | refine Ext.drew ?_ | refine Ext.drewN ?_ _ | refine Ext.extBy ?_ _ | refine Ext.alloc ?_ _ | refine Ext.setCell ?_ (by simp; try omega) _ | (refine Ext.trans ?_ (by assumption)))).mono ?_) | (with_reducible refine (HG2.out _ (by repeat first | exact Ext.refl _ | assumption | refine Ext.drew ?_ | refine Ext.drewN ?_ _ | refine Ext.extBy ?_ _ | refine Ext.alloc ?_ _ | refine Ext.setCell ?_ (by simp; try omega) _ | (refine Ext.trans ?_ (by assumption)))).mono ?_)); rintro e w3 ⟨rfl, hx3⟩; (first | (with_reducible obtain ⟨t3, rfl⟩ := Ext.tok2 hx3) | (obtain ⟨t3, rfl⟩ := Ext.tok hx3))) | (go_at_call 19; refine (HC.out _ (by repeat first | exact Ext.refl _ | assumption | refine Ext.drew ?_ | refine Ext.drewN ?_ _ | refine Ext.extBy ?_ _ | refine Ext.alloc ?_ _ | refine Ext.setCell ?_ (by simp; try omega) _ | (refine Ext.trans ?_ (by assumption)))).mono ?_; rintro e w3 ⟨rfl, hx3⟩; (first | (with_reducible obtain ⟨t4, rfl⟩ := Ext.tok2 hx3) | (obtain ⟨t4, rfl⟩ := Ext.tok hx3))))
  have hx5 : Ext w1 (w1.extBy t4) := (by repeat first | exact Ext.refl _ | assumption | refine Ext.drew ?_ | refine Ext.drewN ?_ _ | refine Ext.extBy ?_ _ | refine Ext.alloc ?_ _ | refine Ext.setCell ?_ (by simp; try omega) _ | (refine Ext.trans ?_ (by assumption)))
  have hbX5 := hbX.ext hx5
  have hE5 := hE.trans hx5
  generalize w1.extBy t4 = w5 at hbX5 hE5 ⊢
  clear p0 p1 p2 p3 p4 p5 p6 hXl hbX hE hx5
  have p0 := hbX5.cells 0 _ rfl
  have p1 := hbX5.cells 1 _ rfl
  have p2 := hbX5.cells 2 _ rfl
  have p3 := hbX5.cells 3 _ rfl
  have p4 := hbX5.cells 4 _ rfl
  have p5 := hbX5.cells 5 _ rfl
  have p6 := hbX5.cells 6 _ rfl
  have hXl := hbX5.lt
  go_upto_region 6 with (refine wpList_store_last rfl 25 (.tmp 9) (.tmp 57) rfl _ _ _ _ rfl rfl (by simp) (by kernel_rfl) (by kernel_rfl) (by kernel_rfl) ?_)
  go_frame
  have hx6 : Ext w5 (w5.alloc (.cells #[.slice ka c.kinds.length kcap, .int .i64 c.ins, .int .i64 c.outs, .int .i64 c.cells, .int .i64 c.stack, .slice ia c.init.length icap, .slice ba c.body.length bcap] 25)) := (Ext.refl w5).alloc _
  have hbD : BoxV w5.heap.size [.slice ka c.kinds.length kcap, .int .i64 c.ins, .int .i64 c.outs, .int .i64 c.cells, .int .i64 c.stack, .slice ia c.init.length icap, .slice ba c.body.length bcap] (w5.alloc (.cells #[.slice ka c.kinds.length kcap, .int .i64 c.ins, .int .i64 c.outs, .int .i64 c.cells, .int .i64 c.stack, .slice ia c.init.length icap, .slice ba c.body.length bcap] 25)) := BoxV.of_row (heap_alloc_last w5 _)
  have hbX := hbX5.ext hx6
  have hE := hE5.trans hx6
  have hs : w5.heap.size + 1 ≤ (w5.alloc (.cells #[.slice ka c.kinds.length kcap, .int .i64 c.ins, .int .i64 c.outs, .int .i64 c.cells, .int .i64 c.stack, .slice ia c.init.length icap, .slice ba c.body.length bcap] 25)).heap.size := by simp
  generalize w5.alloc (.cells #[.slice ka c.kinds.length kcap, .int .i64 c.ins, .int .i64 c.outs, .int .i64 c.cells, .int .i64 c.stack, .slice ia c.init.length icap, .slice ba c.body.length bcap] 25) = w6 at hbX hbD hE hs ⊢
  clear p0 p1 p2 p3 p4 p5 p6 hbX5 hE5 hx6
  obtain ⟨D, hD⟩ : ∃ D, D = w5.heap.size := ⟨_, rfl⟩
  rw [← hD] at hbD hs hXl ⊢
  have hXD : X ≠ D := by omega
  have hDD6 := hs
  have HDD : Hid (w.heap.size ≤ D) := Lib.hid (by have := HXX.out; omega)
  clear hD
  have HA := Lib.hid (HI.out.body.ext hE)
  have q0 := hbX.cells 6 _ rfl
  have HSZ : Hid (D + 1 ≤ w6.heap.size) := Lib.hid hs
  go_upto_region 7 with (at_builtin; (refine wpList_append_slc _ rfl (.const (.slice none 0 0)) (.tmp 59) 23 rfl w6.heap.size 33 (.agg #[.int .i64 0, .int .i64 0, .int .i64 0]) 3 24 Try.underlying23 infoIns rfl (by decide) (.slice none 0 0) 0 [] rfl (own_nil _ _ _ _) _ c.body.length (insCells c.body) rfl HA.out (insCells_len _) (one_insCells _) (by unfold maxLen; omega) (by omega) (Nat.le_refl _) ?_; intro v1 u6 hown hg1 hat1; rw [Nat.zero_add, List.nil_append] at hown; have hE1 := ext_grown_nil hg1; obtain ⟨tba, tbc, rfl⟩ := own_n hown; have hbDu := hbD.ext hE1; have r0 := hbDu.cells 6 _ rfl; have z0 := hbDu.fz; have l0 := hbDu.lt))
  have hlowtb : ∀ b, (Value.slice tba c.body.length tbc).ownBlock = some b → D < b ∧ w6.heap.size ≤ b ∧ b < u6.heap.size := fun b hb => by have := hown.lt b hb; have := HSZ.out; omega
  have hletb := hE1.size
  have hVtb := ownsRow_setCell_below hown (a := ⟨D, 6, none⟩) (show D < w6.heap.size from HSZ.out) (.slice tba c.body.length tbc)
  have hBtb := HSZ
  replace hbD := hbDu.put 6 (.slice tba c.body.length tbc)
  replace hbX := (hbX.ext hE1).other (Ne.symm hXD) 6 (.slice tba c.body.length tbc)
  replace hE : Ext w (u6.setCell ⟨D, 6, none⟩ (.slice tba c.body.length tbc)) := (hE.trans hE1).setCell HDD.out _
  have hsztb : (u6.setCell ⟨D, 6, none⟩ (.slice tba c.body.length tbc)).heap.size = u6.heap.size := by simp
  replace hs : D + 1 ≤ (u6.setCell ⟨D, 6, none⟩ (.slice tba c.body.length tbc)).heap.size := by have := HSZ.out; omega
  simp only [List.set_cons_zero, List.set_cons_succ] at hbD
  rw [← hsztb] at hlowtb
  generalize u6.setCell ⟨D, 6, none⟩ (.slice tba c.body.length tbc) = w7 at hbD hbX hE hs hlowtb hsztb  hVtb ⊢
  rw [← hsztb] at hletb
  have HLtb := Lib.hid hlowtb
  have HTtb := Lib.hid hletb
  have HVtb := Lib.hid hVtb
  clear HA q0 hg1 hE1 hown hat1 hbDu r0 z0 l0 HSZ hsztb hlowtb hletb hVtb
  have HA := Lib.hid (HI.out.init.ext hE)
  have q0 := hbX.cells 5 _ rfl
  have HSZ : Hid (D + 1 ≤ w7.heap.size) := Lib.hid hs
  go_upto_region 8 with (at_builtin; (refine wpList_append_slc _ rfl (.const (.slice none 0 0)) (.tmp 63) 22 rfl w7.heap.size 3 (.int .i64 0) 1 8 Try.underlying22 infoInt rfl (by decide) (.slice none 0 0) 0 [] rfl (own_nil _ _ _ _) _ c.init.length (i64s c.init) rfl HA.out (by simp) (one_i64s _) (by unfold maxLen; omega) (by omega) (Nat.le_refl _) ?_; intro v1 u7 hown hg1 hat1; rw [Nat.zero_add, List.nil_append] at hown; have hE1 := ext_grown_nil hg1; obtain ⟨tia, tic, rfl⟩ := own_n hown; have hbDu := hbD.ext hE1; have r0 := hbDu.cells 5 _ rfl; have z0 := hbDu.fz; have l0 := hbDu.lt))
  have hlowti : ∀ b, (Value.slice tia c.init.length tic).ownBlock = some b → D < b ∧ w7.heap.size ≤ b ∧ b < u7.heap.size := fun b hb => by have := hown.lt b hb; have := HSZ.out; omega
  have hleti := hE1.size
  have hVti := ownsRow_setCell_below hown (a := ⟨D, 5, none⟩) (show D < w7.heap.size from HSZ.out) (.slice tia c.init.length tic)
  have hVtb := ownsRow_setCell_below (ownsRow_ext HVtb.out hE1) (a := ⟨D, 5, none⟩) (show D < w6.heap.size from hBtb.out) (.slice tia c.init.length tic)
  clear HVtb
  have hBti := HSZ
  replace hbD := hbDu.put 5 (.slice tia c.init.length tic)
  replace hbX := (hbX.ext hE1).other (Ne.symm hXD) 5 (.slice tia c.init.length tic)
  replace hE : Ext w (u7.setCell ⟨D, 5, none⟩ (.slice tia c.init.length tic)) := (hE.trans hE1).setCell HDD.out _
  have hszti : (u7.setCell ⟨D, 5, none⟩ (.slice tia c.init.length tic)).heap.size = u7.heap.size := by simp
  replace hs : D + 1 ≤ (u7.setCell ⟨D, 5, none⟩ (.slice tia c.init.length tic)).heap.size := by have := HSZ.out; omega
  simp only [List.set_cons_zero, List.set_cons_succ] at hbD
  rw [← hszti] at hlowti
  generalize u7.setCell ⟨D, 5, none⟩ (.slice tia c.init.length tic) = w8 at hbD hbX hE hs hlowti hszti hVtb hVti ⊢
  rw [← hszti] at hleti
  have HLti := Lib.hid hlowti
  have HTti := Lib.hid hleti
  have HVV := Lib.hid (And.intro hVtb hVti)
  clear HA q0 hg1 hE1 hown hat1 hbDu r0 z0 l0 HSZ hszti hlowti hleti hVtb hVti
  have HA := Lib.hid (HI.out.kinds.ext hE)
  have q0 := hbX.cells 0 _ rfl
  have HSZ : Hid (D + 1 ≤ w8.heap.size) := Lib.hid hs
  go_upto_region 9 with (at_builtin; (refine wpList_append_slc _ rfl (.const (.slice none 0 0)) (.tmp 67) 22 rfl w8.heap.size 3 (.int .i64 0) 1 8 Try.underlying22 infoInt rfl (by decide) (.slice none 0 0) 0 [] rfl (own_nil _ _ _ _) _ c.kinds.length (i64s c.kinds) rfl HA.out (by simp) (one_i64s _) (by unfold maxLen; omega) (by omega) (Nat.le_refl _) ?_; intro v1 u8 hown hg1 hat1; rw [Nat.zero_add, List.nil_append] at hown; have hE1 := ext_grown_nil hg1; obtain ⟨tka, tkc, rfl⟩ := own_n hown; have hbDu := hbD.ext hE1; have r0 := hbDu.cells 0 _ rfl; have z0 := hbDu.fz; have l0 := hbDu.lt))
  have hlowtk : ∀ b, (Value.slice tka c.kinds.length tkc).ownBlock = some b → D < b ∧ w8.heap.size ≤ b ∧ b < u8.heap.size := fun b hb => by have := hown.lt b hb; have := HSZ.out; omega
  have hletk := hE1.size
  have hVtk := ownsRow_setCell_below hown (a := ⟨D, 0, none⟩) (show D < w8.heap.size from HSZ.out) (.slice tka c.kinds.length tkc)
  have hVtb := ownsRow_setCell_below (ownsRow_ext HVV.out.1 hE1) (a := ⟨D, 0, none⟩) (show D < w6.heap.size from hBtb.out) (.slice tka c.kinds.length tkc)
  have hVti := ownsRow_setCell_below (ownsRow_ext HVV.out.2 hE1) (a := ⟨D, 0, none⟩) (show D < w7.heap.size from hBti.out) (.slice tka c.kinds.length tkc)
  clear HVV
  have hBtk := HSZ
  replace hbD := hbDu.put 0 (.slice tka c.kinds.length tkc)
  replace hbX := (hbX.ext hE1).other (Ne.symm hXD) 0 (.slice tka c.kinds.length tkc)
  replace hE : Ext w (u8.setCell ⟨D, 0, none⟩ (.slice tka c.kinds.length tkc)) := (hE.trans hE1).setCell HDD.out _
  have hsztk : (u8.setCell ⟨D, 0, none⟩ (.slice tka c.kinds.length tkc)).heap.size = u8.heap.size := by simp
  replace hs : D + 1 ≤ (u8.setCell ⟨D, 0, none⟩ (.slice tka c.kinds.length tkc)).heap.size := by have := HSZ.out; omega
  simp only [List.set_cons_zero, List.set_cons_succ] at hbD
  rw [← hsztk] at hlowtk
  generalize u8.setCell ⟨D, 0, none⟩ (.slice tka c.kinds.length tkc) = w9 at hbD hbX hE hs hlowtk hsztk hVtb hVti hVtk ⊢
  rw [← hsztk] at hletk
  clear HA q0 hg1 hE1 hown hat1 hbDu r0 z0 l0 HSZ hsztk
  have hin : CodeIn w9 (.slice tka c.kinds.length tkc) (.slice tia c.init.length tic) (.slice tba c.body.length tbc) c := ⟨SlC.of_owns hVtk, SlC.of_owns hVti, SlC.of_owns hVtb⟩
  have d0 := hbD.cells 0 _ rfl
  have d1 := hbD.cells 1 _ rfl
  have d2 := hbD.cells 2 _ rfl
  have d3 := hbD.cells 3 _ rfl
  have d4 := hbD.cells 4 _ rfl
  have d5 := hbD.cells 5 _ rfl
  have d6 := hbD.cells 6 _ rfl
  have HINW := Lib.hid (HNW.out w9 _ _ _ hin)
  have HLO := Lib.hid (And.intro HLtb.out (And.intro HLti.out (And.intro hlowtk (And.intro HTtb.out (And.intro HTti.out (And.intro hletk (And.intro hXl hDD6)))))))
  have HVS := Lib.hid (And.intro hVtb (And.intro hVti hVtk))
  clear HLtb HLti hlowtk HTtb HTti hletk hXl hVtb hVti hVtk hin hBtb hBti hBtk hDD6
  go_upto_region 10 with (go_at_call 28; refine HINW.out.mono ?_; rintro e w10 ⟨g1, S1, rfl, hm1, hx10⟩)
  have hbX10 := hbX.ext hx10
  have hbD10 := hbD.ext hx10
  have hE10 := hE.trans hx10
  have HIN2 := Lib.hid (HNW.out w10 _ _ _ (HI.out.ext hE10))
  have p0 := hbX10.cells 0 _ rfl
  have p1 := hbX10.cells 1 _ rfl
  have p2 := hbX10.cells 2 _ rfl
  have p3 := hbX10.cells 3 _ rfl
  have p4 := hbX10.cells 4 _ rfl
  have p5 := hbX10.cells 5 _ rfl
  have p6 := hbX10.cells 6 _ rfl
  have HM1 := Lib.hid hm1
  clear d0 d1 d2 d3 d4 d5 d6 hm1
  go_upto_region 11 with (go_at_call 28; refine HIN2.out.mono ?_; rintro e w11 ⟨g2, S2, rfl, hm2, hx11⟩)
  obtain ⟨cl, hcl⟩ : ∃ cl : List Value, cl = [.slice ka c.kinds.length kcap, .int .i64 c.ins, .int .i64 c.outs, .int .i64 c.cells, .int .i64 c.stack, .slice ia c.init.length icap, .slice ba c.body.length bcap] := ⟨_, rfl⟩
  obtain ⟨dl, hdl⟩ : ∃ dl : List Value, dl = [.slice tka c.kinds.length tkc, .int .i64 c.ins, .int .i64 c.outs, .int .i64 c.cells, .int .i64 c.stack, .slice tia c.init.length tic, .slice tba c.body.length tbc] := ⟨_, rfl⟩
  obtain ⟨B1, hB1⟩ : ∃ B, B = w9.heap.size := ⟨_, rfl⟩
  obtain ⟨B2, hB2⟩ : ∃ B, B = w10.heap.size := ⟨_, rfl⟩
  have HLE : Hid (Lends w X D cl dl c g1 B1 g2 B2 S1 S2 [⟨.slice tba c.body.length tbc, 33, 3, c.body.length⟩, ⟨.slice tia c.init.length tic, 3, 1, c.init.length⟩, ⟨.slice tka c.kinds.length tkc, 3, 1, c.kinds.length⟩] w11) := Lib.hid (by
    obtain ⟨l1, l2, l3, l4, l5, l6, l7, l8⟩ := HLO.out
    obtain ⟨v1, v2, v3⟩ := HVS.out
    have e1 : ∀ k ∈ S1, B1 ≤ k := fun k hk => by have := (HM1.out.lt k hk).1; omega
    have e2 : ∀ k ∈ S2, B2 ≤ k := fun k hk => by have := (hm2.lt k hk).1; omega
    have hs10 := hx10.size
    have hdd := HDD.out
    refine ⟨hE10.trans hx11, by rw [hcl]; exact hbX10.ext hx11, by rw [hdl]; exact hbD10.ext hx11, fun p hp => ?_, fun p hp b hb => ?_, ?_, by rw [hB1]; exact HM1.out.ext hx11, by rw [hB2]; exact hm2⟩
    · simp only [List.mem_cons, List.not_mem_nil, or_false] at hp
      rcases hp with rfl | rfl | rfl
      · exact ⟨_, ownsRow_base (ownsRow_ext (ownsRow_ext v1 hx10) hx11) (by omega)⟩
      · exact ⟨_, ownsRow_base (ownsRow_ext (ownsRow_ext v2 hx10) hx11) (by omega)⟩
      · exact ⟨_, ownsRow_base (ownsRow_ext (ownsRow_ext v3 hx10) hx11) (by omega)⟩
    · simp only [List.mem_cons, List.not_mem_nil, or_false] at hp
      rcases hp with rfl | rfl | rfl
      · have := l1 b hb; exact ⟨by omega, by omega, fun hk => by have := e1 b hk; omega, fun hk => by have := e2 b hk; omega⟩
      · have := l2 b hb; exact ⟨by omega, by omega, fun hk => by have := e1 b hk; omega, fun hk => by have := e2 b hk; omega⟩
      · have := l3 b hb; exact ⟨by omega, by omega, fun hk => by have := e1 b hk; omega, fun hk => by have := e2 b hk; omega⟩
    · refine List.pairwise_cons.2 ⟨fun q hq b hb hb2 => ?_, List.pairwise_cons.2 ⟨fun q hq b hb hb2 => ?_, List.pairwise_cons.2 ⟨fun q hq => by simp at hq, List.Pairwise.nil⟩⟩⟩
      · simp only [List.mem_cons, List.not_mem_nil, or_false] at hq
        have := l1 b hb
        rcases hq with rfl | rfl
        · have := l2 b hb2; omega
        · have := l3 b hb2; omega
      · simp only [List.mem_cons, List.not_mem_nil, or_false] at hq
        have := l2 b hb
        subst hq
        have := l3 b hb2; omega)
  have HCL := Lib.hid hcl
  have HDL := Lib.hid hdl
  have HBS : Hid (w.heap.size ≤ B1 ∧ w.heap.size ≤ B2 ∧ (∀ k ∈ S1, k < B2) ∧ ∀ k ∈ S2, B2 ≤ k) := Lib.hid (by
    have := hE.size
    have := hE10.size
    exact ⟨by omega, by omega, fun k hk => by have := (HM1.out.lt k hk).2; omega, fun k hk => by have := (hm2.lt k hk).1; omega⟩)
  clear p0 p1 p2 p3 p4 p5 p6 hcl hdl hB1 hB2 hbX hbD hE hbX10 hbD10 hE10 hx10 hx11 hm2 HIN2 HINW HLO HVS HM1 hs hXD
  go_wp2
  go_loopw [14] (fun i wr => ∃ j : Nat, j ≤ c.body.length ∧ i = .int .i64 j ∧ Hid (Lends w X D cl dl c g1 B1 g2 B2 S1 S2 [⟨.slice tba c.body.length tbc, 33, 3, c.body.length⟩, ⟨.slice tia c.init.length tic, 3, 1, c.init.length⟩, ⟨.slice tka c.kinds.length tkc, 3, 1, c.kinds.length⟩] wr)) (fun i _ => c.body.length - (intOf i).toNat)
  case atStart => exact ⟨0, Nat.zero_le _, rfl, HLE⟩
  case round =>
    obtain ⟨j, hj, rfl, HLr⟩ := hrel
    clear HLE
    have d6 := HLr.out.bd.cells 6 (.slice tba c.body.length tbc) (by rw [HDL.out]; rfl)
    have hDl := HLr.out.bd.lt
    by_cases hlt : j < c.body.length
    · obtain ⟨xs, hp⟩ := HLr.out.rows _ (List.mem_cons.2 (.inl rfl))
      obtain ⟨g, cp, e1, -, -, hgl⟩ := ownsRow_some hp (Nat.lt_of_le_of_lt (Nat.zero_le _) hlt)
      simp only [Value.slice.injEq] at e1
      obtain ⟨rfl, -, rfl⟩ := e1
      have hth := own_room3 hp j hlt
      have hji : (j : Int) < (c.body.length : Int) := Int.ofNat_lt.2 hlt
      clear hp
      go_upto_region 15 with (refine wpList_store_mid rfl 33 (.tmp 97) (.tmp 96) rfl g _ #[.int .i64 9, .int .i64 0, .int .i64 0] rfl rfl hth rfl (by simp [Value.oneCell']) ?_)
      go_wp2
      go_roundw
      case rel => exact ⟨j + 1, by omega, by go_num, Lib.hid (HLr.out.ins _ _ _ _)⟩
      case measure => simp [intOf]; omega
    · obtain ⟨wq, hwq⟩ : ∃ x, x = wr := ⟨_, rfl⟩
      subst hwq
      have HLE := Lib.hid HLr.out.tail
      have hji : ¬ (j : Int) < (c.body.length : Int) := fun e => hlt (Int.ofNat_lt.1 e)
      clear HLr
      go_wp2
      clear d6 hDl hji hlt hj
      go_loopw [15] (fun i wr => ∃ j : Nat, j ≤ c.init.length ∧ i = .int .i64 j ∧ Hid (Lends w X D cl dl c g1 B1 g2 B2 S1 S2 [⟨.slice tia c.init.length tic, 3, 1, c.init.length⟩, ⟨.slice tka c.kinds.length tkc, 3, 1, c.kinds.length⟩] wr)) (fun i _ => c.init.length - (intOf i).toNat)
      case atStart => exact ⟨0, Nat.zero_le _, rfl, HLE⟩
      case round =>
        obtain ⟨j, hj, rfl, HLr⟩ := hrel
        clear HLE
        have d5 := HLr.out.bd.cells 5 (.slice tia c.init.length tic) (by rw [HDL.out]; rfl)
        have hDl := HLr.out.bd.lt
        by_cases hlt : j < c.init.length
        · obtain ⟨xs, hp⟩ := HLr.out.rows _ (List.mem_cons.2 (.inl rfl))
          obtain ⟨g, cp, e1, -, -, hgl⟩ := ownsRow_some hp (Nat.lt_of_le_of_lt (Nat.zero_le _) hlt)
          simp only [Value.slice.injEq] at e1
          obtain ⟨rfl, -, rfl⟩ := e1
          obtain ⟨y0, hy0, hy1⟩ := own_room1 hp j hlt
          have hji : (j : Int) < (c.init.length : Int) := Int.ofNat_lt.2 hlt
          clear hp
          go_wp2
          go_roundw
          case rel => exact ⟨j + 1, by omega, by go_num, Lib.hid (HLr.out.num j hlt _)⟩
          case measure => simp [intOf]; omega
        · obtain ⟨wq, hwq⟩ : ∃ x, x = wr := ⟨_, rfl⟩
          subst hwq
          have HLE := Lib.hid HLr.out.tail
          have hji : ¬ (j : Int) < (c.init.length : Int) := fun e => hlt (Int.ofNat_lt.1 e)
          clear HLr
          go_wp2
          clear d5 hDl hji hlt hj
          go_loopw [16] (fun i wr => ∃ j : Nat, j ≤ c.kinds.length ∧ i = .int .i64 j ∧ Hid (Lends w X D cl dl c g1 B1 g2 B2 S1 S2 [⟨.slice tka c.kinds.length tkc, 3, 1, c.kinds.length⟩] wr)) (fun i _ => c.kinds.length - (intOf i).toNat)
          case atStart => exact ⟨0, Nat.zero_le _, rfl, HLE⟩
          case round =>
            obtain ⟨j, hj, rfl, HLr⟩ := hrel
            clear HLE
            have d0 := HLr.out.bd.cells 0 (.slice tka c.kinds.length tkc) (by rw [HDL.out]; rfl)
            have hDl := HLr.out.bd.lt
            by_cases hlt : j < c.kinds.length
            · obtain ⟨xs, hp⟩ := HLr.out.rows _ (List.mem_cons.2 (.inl rfl))
              obtain ⟨g, cp, e1, -, -, hgl⟩ := ownsRow_some hp (Nat.lt_of_le_of_lt (Nat.zero_le _) hlt)
              simp only [Value.slice.injEq] at e1
              obtain ⟨rfl, -, rfl⟩ := e1
              obtain ⟨y0, hy0, hy1⟩ := own_room1 hp j hlt
              have hji : (j : Int) < (c.kinds.length : Int) := Int.ofNat_lt.2 hlt
              clear hp
              go_wp2
              go_roundw
              case rel => exact ⟨j + 1, by omega, by go_num, Lib.hid (HLr.out.num j hlt _)⟩
              case measure => simp [intOf]; omega
            · obtain ⟨wq, hwq⟩ : ∃ x, x = wr := ⟨_, rfl⟩
              subst hwq
              have HLE := Lib.hid HLr.out.tail
              have hji : ¬ (j : Int) < (c.kinds.length : Int) := fun e => hlt (Int.ofNat_lt.1 e)
              have p0 := HLr.out.bx.cells 0 (.slice ka c.kinds.length kcap) (by rw [HCL.out]; rfl)
              have p1 := HLr.out.bx.cells 1 (.int .i64 c.ins) (by rw [HCL.out]; rfl)
              have p2 := HLr.out.bx.cells 2 (.int .i64 c.outs) (by rw [HCL.out]; rfl)
              have p3 := HLr.out.bx.cells 3 (.int .i64 c.cells) (by rw [HCL.out]; rfl)
              have p4 := HLr.out.bx.cells 4 (.int .i64 c.stack) (by rw [HCL.out]; rfl)
              have p5 := HLr.out.bx.cells 5 (.slice ia c.init.length icap) (by rw [HCL.out]; rfl)
              have p6 := HLr.out.bx.cells 6 (.slice ba c.body.length bcap) (by rw [HCL.out]; rfl)
              have HNR := Lib.hid (HRN.out _ HLr.out.ext)
              clear HLr
              go_upto_region 26 with (go_at_call 29; refine HNR.out.mono ?_; rintro e w12 ⟨g3, S3, rfl, hri, hlo3, hx12⟩)
              have HTR : Hid (Tri w c (.slice ka c.kinds.length kcap) (.slice ia c.init.length icap) (.slice ba c.body.length bcap) g1 B1 g2 B2 g3 c.init c.init c.init S1 S2 S3 w12) := Lib.hid (by
                obtain ⟨b1, b2, b3, b4⟩ := HBS.out
                have hm := HLE.out.m.ext hx12
                have ho := HLE.out.o.ext hx12
                have hxz := HLE.out.ext.size
                refine ⟨⟨hm, hri, b1, fun k hk => by have := hlo3 k hk; omega, fun k hk1 hk3 => by have := hlo3 k hk3; have := (HLE.out.m.lt k hk1).2; omega, HLE.out.ext.trans hx12⟩, ho, b2, fun k hk1 hk2 => by have := b3 k hk1; have := b4 k hk2; omega, fun k hk2 hk3 => by have := hlo3 k hk3; have := (HLE.out.o.lt k hk2).2; omega⟩)
              clear p0 p1 p2 p3 p4 p5 p6 d0 hDl hji hlt hj HLE HNR hri hlo3 hx12 HBS HCL HDL HRN HNW HDD HXX HB HC HG HG2
              go_wp2
              go_loopw [18] (fun i wr => ∃ (j : Nat) (cs1 cs2 : List Int) (S1 S2 S3 : List Nat), j ≤ n ∧ i = .int .i64 j ∧ Hid (Tri w c (.slice ka c.kinds.length kcap) (.slice ia c.init.length icap) (.slice ba c.body.length bcap) g1 B1 g2 B2 g3 cs1 cs2 cs1 S1 S2 S3 wr)) (fun i _ => n - (intOf i).toNat)
              case atStart => exact ⟨0, _, _, _, _, _, Nat.zero_le _, rfl, HTR⟩
              case round =>
                obtain ⟨j, cs1, cs2, S1', S2', S3', hj, rfl, HTr⟩ := hrel
                clear HTR
                by_cases hlt : j < n
                · obtain ⟨x, r, hx, hr, hs⟩ := HR.out.at (j := j) (by have := HY.out.2.2.2.1; omega)
                  have hIr := HY.out.2.1 r (List.mem_of_getElem? hr)
                  have HSX := Lib.hid hs
                  obtain ⟨b, o, rfl, f1⟩ := HT.out j x hx
                  have z1 : b < w.heap.size := World.block_lt_of_cell? w _ f1
                  have hji : (j : Int) < (n : Int) := Int.ofNat_lt.2 hlt
                  obtain ⟨a', cap', rfl, -⟩ := hs
                  have HIR := Lib.hid hIr
                  clear hx hr hIr
                  by_cases hlt2 : j < n2
                  · obtain ⟨x2, r2, hx2, hr2, hs2⟩ := HR2.out.at (j := j) (by have := HY.out.2.2.2.2; omega)
                    have HO := Lib.hid (HTr.out.tick2 HY.out.1 HI.out hs2 (HY.out.2.2.1 r2 (List.mem_of_getElem? hr2)))
                    have hji2 : (j : Int) < (n2 : Int) := Int.ofNat_lt.2 hlt2
                    obtain ⟨b2, o2, rfl, f2⟩ := HT2.out j x2 hx2
                    have z2 : b2 < w.heap.size := World.block_lt_of_cell? w _ f2
                    obtain ⟨a'', cap'', rfl, -⟩ := hs2
                    clear hx2 hr2
                    obtain ⟨t1, rfl⟩ := HTr.out.duo.ext.tok
                    go_upto_region 31 with (go_at_call 30; refine HO.out.mono ?_; rintro e w5 ⟨v5, S5, rfl, ht5, o1, o2, o3, rfl⟩)
                    have HT5 := Lib.hid ht5
                    clear ht5 HO HTr
                    obtain ⟨t5, rfl⟩ := HT5.out.duo.ext.tok
                    have HM5 := Lib.hid (HT5.out.tick1 HY.out.1 HI.out HSX.out HIR.out)
                    have HEQ : Hid (∃ R, R = tickV c cs1 r) := Lib.hid ⟨_, rfl⟩
                    obtain ⟨R, hR⟩ := HEQ.out
                    rw [← hR] at HM5
                    have HRV := Lib.hid hR
                    clear hR
                    go_upto_region 32 with (go_at_call 30; refine HM5.out.mono ?_; rintro e w6 ⟨v6, S6, base6, rfl, ht6, hb6, hown6⟩)
                    have HT6 := Lib.hid ht6
                    have HG3 : Hid (∀ b, v6.ownBlock = some b → b ≠ g3) := Lib.hid fun b hb e => by
                      have := (hown6.lt b hb).1
                      have := HT5.out.duo.r.lt.2 g3 HT5.out.duo.r.lt.1
                      omega
                    have HW6 := Lib.hid hown6
                    have HR6 := Lib.hid (HT6.out.tick3 HY.out.1 HSX.out HIR.out)
                    rw [← HRV.out] at HR6
                    clear ht6 hb6 hown6 HM5 HT5 HEQ
                    obtain ⟨t6, hw6⟩ : ∃ t, w6 = w.extBy t := HT6.out.duo.ext.tok
                    subst hw6
                    go_upto_region 33 with (go_at_call 31; refine HR6.out.mono ?_; rintro e w7 ⟨v7, S7, rfl, ht7, hk7, hs7⟩)
                    have HSM := Lib.hid (same21_any R.outs R.outs v6 v7 w7 (SlC.of_owns (hk7.row HW6.out (fun k hk e => HG3.out k e (List.mem_singleton.1 hk)))) hs7)
                    rw [show decide (R.outs = R.outs) = true from decide_eq_true rfl] at HSM
                    have HT7 := Lib.hid ht7
                    obtain ⟨q1, q2, q3, rfl⟩ := own_slice3 HW6.out
                    obtain ⟨y1, y2, rfl, -⟩ := hs7
                    clear ht7 hk7 HR6 HT6
                    go_wp2_with (first | (go_at_call 32; refine (num21_any _ _).mono ?_; rintro e w8 ⟨rfl, rfl⟩) | (go_at_call 33; refine HSM.out.mono ?_; rintro e w8 ⟨rfl, hx8⟩))
                    have HT8 := Lib.hid (HT7.out.more hx8)
                    go_roundw
                    case rel => exact ⟨j + 1, _, _, _, _, _, by omega, by go_num, HT8⟩
                    case measure => simp [intOf]; omega
                  · have hji2 : ¬ (j : Int) < (n2 : Int) := fun e => hlt2 (Int.ofNat_lt.1 e)
                    have HT5 := Lib.hid HTr.out
                    clear HTr
                    obtain ⟨t5, rfl⟩ := HT5.out.duo.ext.tok
                    have HM5 := Lib.hid (HT5.out.tick1 HY.out.1 HI.out HSX.out HIR.out)
                    have HEQ : Hid (∃ R, R = tickV c cs1 r) := Lib.hid ⟨_, rfl⟩
                    obtain ⟨R, hR⟩ := HEQ.out
                    rw [← hR] at HM5
                    have HRV := Lib.hid hR
                    clear hR
                    go_upto_region 32 with (go_at_call 30; refine HM5.out.mono ?_; rintro e w6 ⟨v6, S6, base6, rfl, ht6, hb6, hown6⟩)
                    have HT6 := Lib.hid ht6
                    have HG3 : Hid (∀ b, v6.ownBlock = some b → b ≠ g3) := Lib.hid fun b hb e => by
                      have := (hown6.lt b hb).1
                      have := HT5.out.duo.r.lt.2 g3 HT5.out.duo.r.lt.1
                      omega
                    have HW6 := Lib.hid hown6
                    have HR6 := Lib.hid (HT6.out.tick3 HY.out.1 HSX.out HIR.out)
                    rw [← HRV.out] at HR6
                    clear ht6 hb6 hown6 HM5 HT5 HEQ
                    obtain ⟨t6, hw6⟩ : ∃ t, w6 = w.extBy t := HT6.out.duo.ext.tok
                    subst hw6
                    go_upto_region 33 with (go_at_call 31; refine HR6.out.mono ?_; rintro e w7 ⟨v7, S7, rfl, ht7, hk7, hs7⟩)
                    have HSM := Lib.hid (same21_any R.outs R.outs v6 v7 w7 (SlC.of_owns (hk7.row HW6.out (fun k hk e => HG3.out k e (List.mem_singleton.1 hk)))) hs7)
                    rw [show decide (R.outs = R.outs) = true from decide_eq_true rfl] at HSM
                    have HT7 := Lib.hid ht7
                    obtain ⟨q1, q2, q3, rfl⟩ := own_slice3 HW6.out
                    obtain ⟨y1, y2, rfl, -⟩ := hs7
                    clear ht7 hk7 HR6 HT6
                    go_wp2_with (first | (go_at_call 32; refine (num21_any _ _).mono ?_; rintro e w8 ⟨rfl, rfl⟩) | (go_at_call 33; refine HSM.out.mono ?_; rintro e w8 ⟨rfl, hx8⟩))
                    have HT8 := Lib.hid (HT7.out.more hx8)
                    go_roundw
                    case rel => exact ⟨j + 1, _, _, _, _, _, by omega, by go_num, HT8⟩
                    case measure => simp [intOf]; omega
                · have hji : ¬ (j : Int) < (n : Int) := fun e => hlt (Int.ofNat_lt.1 e)
                  have hxr := HTr.out.duo.ext
                  clear HTr
                  obtain ⟨t1, rfl⟩ := hxr.tok
                  go_wp2
                  go_ret
                  exact ⟨rfl, (by repeat first | exact Ext.refl _ | assumption | refine Ext.drew ?_ | refine Ext.drewN ?_ _ | refine Ext.extBy ?_ _ | refine Ext.alloc ?_ _ | refine Ext.setCell ?_ (by simp; try omega) _ | (refine Ext.trans ?_ (by assumption)))⟩
end Go.Proofs.Ytipfcfaigbeakaa
