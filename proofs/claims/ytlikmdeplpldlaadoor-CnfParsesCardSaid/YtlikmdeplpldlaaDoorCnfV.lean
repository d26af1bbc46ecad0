/-
  The document's example: its formula, its text, and that it holds.
  Conditions: the library's table of powers is laid.
-/
import Derived.Test.YtlikmdeplpldlaaDoorCnfM
import Derived.Test.YtlikmdeplpldlaaDoorCnfU
namespace Go.Proofs.YtlikmdeplpldlaaDoor
open Go.RowKit
set_option linter.unusedSimpArgs false
set_option linter.unusedVariables false
set_option maxRecDepth 100000

def exL : List GateV := [⟨2, 0, 0⟩, ⟨2, 0, 0⟩, ⟨3, 0, 2⟩]
def exF : List (List Int) := [[-3, 1], [-3, 2], [3, -1, -2], [3]]
def exT : List UInt8 := [112, 32, 99, 110, 102, 32, 51, 32, 52, 10, 45, 51, 32, 49, 32, 48, 10, 45, 51, 32, 50, 32, 48, 10, 51, 32, 45, 49, 32, 45, 50, 32, 48, 10, 51, 32, 48, 10]
theorem ofV_ex : ofV exL [4] = (3, exF, 0) := by decide
theorem itoa_pos (d : Nat) (h : d < 10) : Lib.itoa (d : Int) = [UInt8.ofNat (48 + d)] := by rw [Lib.itoa_nonneg, Lib.decDigits_one h]
theorem itoa_minus (d : Nat) (h : d < 10) (h1 : 1 ≤ d) : Lib.itoa (-(d : Int)) = [45, UInt8.ofNat (48 + d)] := by rw [Lib.itoa_neg d h1, Lib.decDigits_one h]
theorem text_ex : (if chkF 3 exF = 0 then textF 3 exF else []) = exT := by
  rw [if_pos (by decide)]
  have h3 : Lib.itoa 3 = [51] := itoa_pos 3 (by decide)
  have h4 : Lib.itoa 4 = [52] := itoa_pos 4 (by decide)
  have h1 : Lib.itoa 1 = [49] := itoa_pos 1 (by decide)
  have h2 : Lib.itoa 2 = [50] := itoa_pos 2 (by decide)
  have g3 : Lib.itoa (-3) = [45, 51] := itoa_minus 3 (by decide) (by decide)
  have g1 : Lib.itoa (-1) = [45, 49] := itoa_minus 1 (by decide) (by decide)
  have g2 : Lib.itoa (-2) = [45, 50] := itoa_minus 2 (by decide) (by decide)
  unfold textF headB
  rw [show ((exF.length : Nat) : Int) = 4 from rfl, h3, h4]
  simp only [exF, clB, litB, List.flatMap_cons, List.flatMap_nil, h1, h2, h3, g1, g2, g3]
  rfl
theorem holds_ex : holdsF 3 exF [false, true, true, true] = true := by decide
theorem tab_ext {w w' : World} (h : Lib.TabIs Tryd.prog w "internal/strconv.uint64pow10" .u64 Lib.pow10Tab) (hx : Ext w w') : Lib.TabIs Tryd.prog w' "internal/strconv.uint64pow10" .u64 Lib.pow10Tab := Lib.tabBelow_of_tabIs h w' hx
theorem of_ex (gv wv : Value) (w : World) (h : GatesIn w gv exL) (hw : SlC w wv 1 (i64s [4])) : Calls Tryd.prog 16 #[.agg #[gv], wv] w fun e w' => ∃ a c vs, e = .returned (.tuple #[.agg #[.int .i64 3, .slice a 4 c], .int .i64 0]) ∧ Hid (RowsIn w' (.slice a 4 c) vs exF ∧ Ext w w') := by
  refine (ofC_any exL gv [4] wv w h (by intro q hq; simp [exL] at hq; rcases hq with rfl | rfl <;> simp [I64]) hw (by intro q hq; simp at hq; subst hq; simp [I64]) (by decide)).mono ?_
  rintro e w' ⟨v, vs, rfl, hf⟩
  rw [ofV_ex] at hf ⊢
  obtain ⟨a, c, rfl⟩ := own_n hf.top
  have hl : vs.length = 4 := hf.len
  rw [hl] at hf ⊢
  exact ⟨a, c, vs, rfl, Lib.hid ⟨hf.rows, hf.ext⟩⟩
set_option maxHeartbeats 2000000 in
theorem alive_any (w : World) (htab : Lib.TabIs Tryd.prog w "internal/strconv.uint64pow10" .u64 Lib.pow10Tab) : Calls Tryd.prog 8 #[] w fun e w' => e = .returned (.bool true) ∧ Ext w w' := by
  have HTAB := Lib.hid htab
  clear htab
  go_enter Tryd.func8, Tryd.ntmps8
  have HG := Lib.hid (show GatesIn ((w.alloc (.cells #[.int .i64 2, .int .i64 0, .int .i64 0, .int .i64 2, .int .i64 0, .int .i64 0, .int .i64 3, .int .i64 0, .int .i64 2] 48)).alloc (.cells #[.int .i64 4] 3)) (.slice (some ⟨w.heap.size, 0, none⟩) 3 3) exL from (SlC.fresh w #[.int .i64 2, .int .i64 0, .int .i64 0, .int .i64 2, .int .i64 0, .int .i64 0, .int .i64 3, .int .i64 0, .int .i64 2] 48 3 _ rfl (by decide)).ext ((Ext.refl _).alloc _))
  have HW := Lib.hid (show SlC ((w.alloc (.cells #[.int .i64 2, .int .i64 0, .int .i64 0, .int .i64 2, .int .i64 0, .int .i64 0, .int .i64 3, .int .i64 0, .int .i64 2] 48)).alloc (.cells #[.int .i64 4] 3)) (.slice (some ⟨w.heap.size + 1, 0, none⟩) 1 1) 1 (i64s [4]) from SlC.fresh _ #[.int .i64 4] 3 1 _ (World.size_alloc _ _).symm (by decide))
  go_upto_region 2 with (first | (go_at_call 16; refine (of_ex _ _ _ HG.out HW.out).mono ?_; rintro e w' ⟨a, c, vs, rfl, HF⟩) | (refine wpList_store_last rfl 24 (.tmp 1) (.tmp 11) rfl _ _ _ _ rfl rfl (by simp) (by kernel_rfl) (by kernel_rfl) (by kernel_rfl) ?_))
  have hA : Ext w ((w.alloc (.cells #[.int .i64 2, .int .i64 0, .int .i64 0, .int .i64 2, .int .i64 0, .int .i64 0, .int .i64 3, .int .i64 0, .int .i64 2] 48)).alloc (.cells #[.int .i64 4] 3)) := ((Ext.refl w).alloc _).alloc _
  have hN : Ext w' (w'.alloc (.cells #[.int .i64 3, .slice a 4 c] 24)) := (Ext.refl w').alloc _
  have hX := (hA.trans HF.out.2).trans hN
  have hbX := BoxV.of_row (heap_alloc_last w' (.cells #[.int .i64 3, .slice a 4 c] 24))
  have HR := Lib.hid (And.intro (HF.out.1.ext hN) (And.intro hX (tab_ext HTAB.out hX)))
  clear HF HG HW HTAB hA hN hX
  generalize w'.alloc (.cells #[.int .i64 3, .slice a 4 c] 24) = w8 at HR hbX ⊢
  generalize w'.heap.size = X at hbX ⊢
  have p0 := hbX.cells 0 _ rfl
  have p1 := hbX.cells 1 _ rfl
  have hl := hbX.lt
  clear hbX
  have hl9 : (9 : Int) < (exT.length : Int) := by decide
  have hpre : ((⟨exT.toArray⟩ : ByteArray).extract 0 9).toList = [112, 32, 99, 110, 102, 32, 51, 32, 52] := by kernel_rfl
  go_wp2_with (first | (go_at_call 11; refine (num23_any 0 _).mono ?_; rintro e w' ⟨rfl, rfl⟩) | (go_at_call 21; refine (textC_any 3 _ vs exF _ (by decide) (by decide) (HR.out.1.ext (by repeat first | exact Ext.refl _ | assumption | refine Ext.drew ?_ | refine Ext.drewN ?_ _ | refine Ext.extBy ?_ _ | refine Ext.alloc ?_ _ | refine Ext.setCell ?_ (by simp; try omega) _ | (refine Ext.trans ?_ (by assumption)))) (by decide) (tab_ext HR.out.2.2 (by repeat first | exact Ext.refl _ | assumption | refine Ext.drew ?_ | refine Ext.drewN ?_ _ | refine Ext.extBy ?_ _ | refine Ext.alloc ?_ _ | refine Ext.setCell ?_ (by simp; try omega) _ | (refine Ext.trans ?_ (by assumption))))).mono ?_; rintro e w' ⟨rfl, hE'⟩; rw [text_ex]; (first | (with_reducible obtain ⟨t3, rfl⟩ := Ext.tok2 hE') | (obtain ⟨t3, rfl⟩ := Ext.tok hE'))) | (go_at_call 13; refine (holdsC_any 3 _ vs exF [false, true, true, true] _ _ (by decide) (by decide) (HR.out.1.ext (by repeat first | exact Ext.refl _ | assumption | refine Ext.drew ?_ | refine Ext.drewN ?_ _ | refine Ext.extBy ?_ _ | refine Ext.alloc ?_ _ | refine Ext.setCell ?_ (by simp; try omega) _ | (refine Ext.trans ?_ (by assumption)))) (by decide) (SlC.fresh _ #[.bool false, .bool true, .bool true, .bool true] 4 4 _ (by simp) (by decide)) (by decide)).mono ?_; rintro e w' ⟨rfl, hE2⟩; rw [holds_ex]))
  go_ret
  exact ⟨rfl, (HR.out.2.1.trans ((Ext.by w8 t3).alloc _)).trans hE2⟩
end Go.Proofs.YtlikmdeplpldlaaDoor
